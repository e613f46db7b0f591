/- Part 7 of 8 of what this claim's proof stands on: a theory of programs on data, and the contracts of the functions that the law reaches. It holds no condition of its own. -/
import Derived.Test.YtiaplhcifflibaaCA6
import Derived.Test.YtiaplhcifflibaaProg
import Derived.Shelf.SlSortCmp.WholeK
import Derived.Shelf.SlSortCmp.NoneTotal
import Derived.Ground.SlsfProg
namespace Go.Proofs.Ytiaplhcifflibaa
open Go
noncomputable section
noncomputable abbrev prog : Program := Try.prog
abbrev tId : Ty := (.arr 32 (.int .u8))
abbrev ab : Ty := (.st (.pair (.int .i64) (.pair tId .unit)))
def cj : List (Nat × Ty) := [
 (1, (.fn .unit .unit)),
 (2, (.int .i64)),
 (3, (.int .i64)),
 (4, .bool),
 (5, (.int .u8)),
 (9, .str),
 (12, (.int .u64)),
 (21, (.int .i32)),
 (22, (.slc ab)),
 (23, tId),
 (24, tId),
 (25, (.fn (.pair (.slc ab) .unit) (.pair (.slc ab) .unit))),
 (26, (.int .i64)),
 (28, (.fn (.pair (.slc ab) .unit) (.pair (.slc ab) (.pair (.int .i64) .unit)))),
 (29, ab),
 (30, ab),
 (32, (.fn (.pair (.slc ab) (.pair tId .unit)) (.pair ab (.pair (.int .i64) .unit)))),
 (33, (.fn (.pair (.slc ab) .unit) (.pair .bool .unit))),
 (34, (.fn .unit (.pair .bool .unit))),
 (35, (.fn (.pair (.slc ab) (.pair (.slc ab) .unit)) (.pair .bool .unit))),
 (36, (.fn (.pair (.slc ab) (.pair tId .unit)) (.pair ab .unit))),
 (37, (.fn (.pair (.slc ab) (.pair tId .unit)) (.pair .bool .unit))),
 (38, (.fn (.pair (.slc ab) (.pair (.int .i64) (.pair (.int .i64) .unit))) (.pair (.slc ab) (.pair (.int .i64) .unit)))),
 (39, (.fn (.pair (.slc ab) (.pair ab (.pair tId .unit))) (.pair .bool .unit))),
 (40, (.mp (.int .i64) .bool)),
 (41, (.fn (.pair (.slc ab) (.pair (.int .i64) (.pair tId .unit))) (.pair .bool .unit))),
 (42, (.fn (.pair (.slc ab) (.pair (.int .i64) .unit)) (.pair ab (.pair (.int .i64) .unit)))),
 (43, (.fn (.pair (.slc ab) (.pair (.int .i64) .unit)) (.pair ab .unit))),
 (44, (.fn (.pair (.slc ab) (.pair ab .unit)) (.pair ab .unit))),
 (45, (.fn (.pair (.slc ab) (.pair ab (.pair (.int .i64) .unit))) (.pair (.slc ab) .unit))),
 (46, (.fn (.pair (.slc ab) (.pair (.int .i64) (.pair (.int .i64) .unit))) (.pair .bool .unit))),
 (47, (.fn (.pair tId (.pair tId (.pair tId .unit))) (.pair .bool .unit))),
 (48, (.fn (.pair (.fn (.pair (.fn (.pair ab .unit) (.pair .bool .unit)) .unit) .unit) (.pair (.fn (.pair ab (.pair ab .unit)) (.pair (.int .i64) .unit)) .unit)) (.pair (.slc ab) .unit))),
 (49, (.fn (.pair (.fn (.pair ab .unit) (.pair .bool .unit)) .unit) .unit)),
 (50, (.fn (.pair (.fn (.pair ab .unit) (.pair .bool .unit)) .unit) .unit)),
 (51, (.fn (.pair (.slc ab) .unit) (.pair (.fn (.pair (.fn (.pair ab .unit) (.pair .bool .unit)) .unit) .unit) .unit))),
 (52, (.fn (.pair ab (.pair ab .unit)) (.pair (.int .i64) .unit))),
 (53, (.fn (.pair tId .unit) (.pair (.fn (.pair ab (.pair ab .unit)) (.pair (.int .i64) .unit)) .unit))),
 (54, (.fn (.pair (.slc ab) (.pair (.fn (.pair ab (.pair ab .unit)) (.pair (.int .i64) .unit)) .unit)) (.pair ab .unit))),
 (55, (.fn (.pair (.slc ab) (.pair (.fn (.pair ab .unit) (.pair .bool .unit)) .unit)) (.pair .bool .unit))),
 (56, (.fn (.pair ab .unit) (.pair .bool .unit))),
 (57, (.fn (.pair tId (.pair tId .unit)) (.pair (.int .i64) .unit))),
 (58, (.fn (.pair tId (.pair tId .unit)) (.pair tId .unit))),
 (59, (.fn (.pair (.slc ab) (.pair (.int .i64) .unit)) (.pair (.slc ab) (.pair (.int .i64) .unit)))),
 (60, (.fn (.pair (.fn (.pair (.fn (.pair ab .unit) (.pair .bool .unit)) .unit) .unit) .unit) (.pair (.slc ab) .unit))),
 (61, (.fn (.pair (.slc ab) (.pair (.fn (.pair ab (.pair ab .unit)) (.pair (.int .i64) .unit)) .unit)) .unit)),
 (62, (.fn (.pair (.slc ab) (.pair (.fn (.pair ab .unit) (.pair .bool .unit)) .unit)) (.pair (.int .i64) .unit))),
 (63, (.fn (.pair tId (.pair (.int .i64) .unit)) (.pair (.int .i64) .unit))),
 (64, (.fn (.pair tId .unit) (.pair tId .unit))),
 (65, (.fn (.pair (.int .i64) .unit) (.pair tId .unit))),
 (66, (.fn (.pair (.slc (.int .u8)) (.pair (.slc (.int .u8)) .unit)) (.pair (.int .i64) .unit))),
 (67, (.slc (.int .u8))),
 (68, (.fn (.pair (.slc ab) (.pair (.fn (.pair (.fn (.pair ab .unit) (.pair .bool .unit)) .unit) .unit) .unit)) (.pair (.slc ab) .unit))),
 (69, (.fn (.pair (.slc ab) (.pair (.int .i64) (.pair (.int .i64) (.pair (.int .i64) (.pair (.fn (.pair ab (.pair ab .unit)) (.pair (.int .i64) .unit)) .unit))))) .unit)),
 (70, (.fn (.pair (.int .u64) .unit) (.pair (.int .i64) .unit))),
 (71, (.int .u64)),
 (72, (.fn (.pair (.int .u8) (.pair (.int .u8) .unit)) (.pair (.int .i64) .unit))),
 (73, (.fn (.pair (.slc ab) (.pair (.int .i64) (.pair (.int .i64) (.pair (.fn (.pair ab (.pair ab .unit)) (.pair (.int .i64) .unit)) .unit)))) .unit)),
 (74, (.int .i64)),
 (76, (.fn (.pair (.slc ab) (.pair (.int .i64) (.pair (.int .i64) (.pair (.fn (.pair ab (.pair ab .unit)) (.pair (.int .i64) .unit)) .unit)))) (.pair (.int .i64) (.pair (.int .i64) .unit)))),
 (77, (.fn (.pair (.slc ab) (.pair (.int .i64) (.pair (.int .i64) (.pair (.fn (.pair ab (.pair ab .unit)) (.pair (.int .i64) .unit)) .unit)))) (.pair .bool .unit))),
 (78, (.fn (.pair (.slc ab) (.pair (.int .i64) (.pair (.int .i64) (.pair (.int .i64) (.pair (.fn (.pair ab (.pair ab .unit)) (.pair (.int .i64) .unit)) .unit))))) (.pair (.int .i64) .unit))),
 (80, (.fn (.pair (.slc ab) (.pair (.int .i64) (.pair (.int .i64) (.pair (.int .i64) (.pair (.fn (.pair ab (.pair ab .unit)) (.pair (.int .i64) .unit)) .unit))))) (.pair (.int .i64) (.pair .bool .unit)))),
 (81, (.fn (.pair (.int .u32) .unit) (.pair (.int .i64) .unit))),
 (82, (.int .u32)),
 (83, (.fn (.pair (.int .u64) .unit) (.pair (.int .i64) .unit))),
 (84, (.int .u64)),
 (85, (.fn (.pair (.int .u8) .unit) (.pair .bool .unit))),
 (86, (.int .u64)),
 (87, (.fn (.pair (.int .i64) .unit) (.pair (.int .u64) .unit))),
 (88, (.fn .unit (.pair (.int .u64) .unit))),
 (95, (.fn .unit (.pair .str .unit))),
 (101, (.fn .unit (.pair (.int .i64) .unit)))]
theorem bK : ow prog cj = true := by kernel_rfl
theorem bh : prog.follows .mixedOrders = true := by kernel_rfl
abbrev mP : Nat := 5
noncomputable abbrev cX : Func := Try.f5
abbrev dn : Ty := (.pair (.slc ab) (.pair (.int .i64) (.pair tId .unit)))
abbrev lF : Ty := (.pair .bool .unit)
theorem rQ : Try.prog.funcs[mP]? = some cX := Try.func5
abbrev lA : Nat := 8
noncomputable abbrev nY : Func := Try.f8
abbrev qJ : Ty := (.pair (.slc ab) .unit)
abbrev qL : Ty := (.pair (.slc ab) .unit)
theorem w3 : Try.prog.funcs[lA]? = some nY := Try.func8
abbrev fa : Nat := 10
noncomputable abbrev kO : Func := Try.f10
abbrev nK : Ty := (.pair (.slc ab) (.pair tId .unit))
abbrev jw : Ty := (.pair ab (.pair (.int .i64) .unit))
theorem tv : Try.prog.funcs[fa]? = some kO := Try.func10
abbrev cn : Nat := 11
noncomputable abbrev dO : Func := Try.f11
abbrev nN : Ty := (.pair (.slc ab) .unit)
abbrev jz : Ty := (.pair .bool .unit)
theorem ti : Try.prog.funcs[cn]? = some dO := Try.func11
abbrev i6 : Nat := 13
noncomputable abbrev mm : Func := Try.f13
abbrev oV : Ty := .unit
abbrev oJ : Ty := (.pair .bool .unit)
theorem ug : Try.prog.funcs[i6]? = some mm := Try.func13
abbrev iz : Nat := 17
noncomputable abbrev dK : Func := Try.f17
abbrev nJ : Ty := (.pair (.slc ab) (.pair (.int .i64) (.pair (.int .i64) .unit)))
abbrev fy : Ty := (.pair (.slc ab) (.pair (.int .i64) .unit))
theorem tk : Try.prog.funcs[iz]? = some dK := Try.func17
abbrev cp : Nat := 23
noncomputable abbrev aL : Func := Try.f23
abbrev dc : Ty := (.pair (.slc ab) .unit)
theorem jl : Try.prog.funcs[cp]? = some aL := Try.func23
abbrev c4 : Nat := 24
noncomputable abbrev eE : Func := Try.f24
abbrev gE : Ty := (.pair (.slc ab) .unit)
theorem lk : Try.prog.funcs[c4]? = some eE := Try.func24
abbrev fG : Nat := 25
noncomputable abbrev l8 : Func := Try.f25
abbrev oa : Ty := (.pair tId .unit)
abbrev oL : Ty := (.pair (.fn (.pair ab (.pair ab .unit)) (.pair (.int .i64) .unit)) .unit)
theorem uv : Try.prog.funcs[fG]? = some l8 := Try.func25
abbrev cQ : Nat := 26
noncomputable abbrev aU : Func := Try.f26
abbrev gc : Ty := (.pair (.slc ab) (.pair (.fn (.pair ab (.pair ab .unit)) (.pair (.int .i64) .unit)) .unit))
abbrev dN : Ty := (.pair ab .unit)
theorem kg : Try.prog.funcs[cQ]? = some aU := Try.func26
abbrev bX : Nat := 27
noncomputable abbrev cZ : Func := Try.f27
abbrev eJ : Ty := (.pair (.slc ab) (.pair (.fn (.pair ab .unit) (.pair .bool .unit)) .unit))
abbrev eM : Ty := (.pair .bool .unit)
theorem iE : Try.prog.funcs[bX]? = some cZ := Try.func27
abbrev gr : Nat := 28
noncomputable abbrev iT : Func := Try.f28
abbrev lP : Ty := (.pair ab (.pair (.ref ab) .unit))
abbrev ll : Ty := (.pair .bool .unit)
theorem rL : Try.prog.funcs[gr]? = some iT := Try.func28
abbrev gW : Nat := 31
noncomputable abbrev jE : Func := Try.f31
abbrev mT : Ty := (.pair (.slc ab) (.pair (.int .i64) .unit))
abbrev iH : Ty := (.pair (.slc ab) (.pair (.int .i64) .unit))
theorem rZ : Try.prog.funcs[gW]? = some jE := Try.func31
abbrev jb : Nat := 33
noncomputable abbrev bH : Func := Try.f33
abbrev nV : Ty := (.pair tId (.pair tId .unit))
abbrev gq : Ty := (.pair tId .unit)
theorem t7 : Try.prog.funcs[jb]? = some bH := Try.func33
abbrev fT : Nat := 34
noncomputable abbrev fR : Func := Try.f34
abbrev kh : Ty := (.pair tId (.pair tId .unit))
abbrev kY : Ty := (.pair (.int .i64) .unit)
theorem qw : Try.prog.funcs[fT]? = some fR := Try.func34
abbrev gH : Nat := 35
noncomputable abbrev bc : Func := Try.f35
theorem kF : Try.prog.funcs[gH]? = some bc := Try.func35
abbrev cC : Nat := 36
noncomputable abbrev k4 : Func := Try.f36
theorem jT : Try.prog.funcs[cC]? = some k4 := Try.func36
abbrev dJ : Nat := 37
noncomputable abbrev aR : Func := Try.f37
theorem j1 : Try.prog.funcs[dJ]? = some aR := Try.func37
abbrev gS : Nat := 38
noncomputable abbrev jL : Func := Try.f38
abbrev mE : Ty := (.pair ab (.pair ab (.pair (.ref tId) .unit)))
abbrev mv : Ty := (.pair (.int .i64) .unit)
theorem rV : Try.prog.funcs[gS]? = some jL := Try.func38
abbrev bl : Nat := 39
noncomputable abbrev aW : Func := Try.f39
abbrev fD : Ty := (.pair (.slc ab) (.pair (.fn (.pair ab .unit) (.pair .bool .unit)) .unit))
abbrev du : Ty := (.pair (.int .i64) .unit)
theorem jy : Try.prog.funcs[bl]? = some aW := Try.func39
abbrev fW : Nat := 44
noncomputable abbrev ip : Func := Try.f44
abbrev kW : Ty := (.pair ab (.pair (.ref (.int .i64)) .unit))
abbrev kN : Ty := (.pair .bool .unit)
theorem qt : Try.prog.funcs[fW]? = some ip := Try.func44
abbrev dp : Nat := 45
noncomputable abbrev aN : Func := Try.f45
abbrev gR : Ty := (.pair (.slc (.int .u8)) (.pair (.slc (.int .u8)) .unit))
abbrev c5 : Ty := (.pair (.int .i64) .unit)
theorem ma : Try.prog.funcs[dp]? = some aN := Try.func45
abbrev fX : Nat := 46
noncomputable abbrev ai : Func := Try.f46
theorem js : Try.prog.funcs[fX]? = some ai := Try.func46
abbrev d6 : Nat := 49
noncomputable abbrev dZ : Func := Try.f49
abbrev iF : Ty := (.pair (.int .u8) (.pair (.int .u8) .unit))
abbrev iG : Ty := (.pair (.int .i64) .unit)
theorem nR : Try.prog.funcs[d6]? = some dZ := Try.func49
abbrev fp : Nat := 60
noncomputable abbrev fk : Func := Try.f60
abbrev jO : Ty := (.pair (.int .u8) .unit)
abbrev jQ : Ty := (.pair .bool .unit)
theorem pt : Try.prog.funcs[fp]? = some fk := Try.func60
end
end Go.Proofs.Ytiaplhcifflibaa
namespace Go.Proofs.Ytiaplhcifflibaa
open Go Go.RowKit
theorem hP {σ : Type} (n : Nat) (Inv : Nat → σ → Prop) (Q : Nat → σ → Prop) (step : ∀ i s, i < n → Inv i s → (∀ s', Inv (i + 1) s' → Q (i + 1) s') → Q i s) (last : ∀ s, Inv n s → Q n s) : ∀ (i : Nat) (s : σ), i ≤ n → Inv i s → Q i s := by
 intro i s hi
 obtain ⟨k, hk⟩ : ∃ k, k + i = n := ⟨n - i, by omega⟩
 induction k generalizing i s with
 | zero =>
  have e : i = n := by omega
  subst e
  exact last s
 | succ k ih =>
  intro hI
  exact step i s (by omega) hI fun s' h' => ih (i + 1) s' (by omega) (by omega) h'
theorem mD {e : Ty} (t : List (den e)) {i : Nat} : (decide ((i : Int) < lnx e t)) = decide (i < t.length) := by
 rw [Bool.eq_iff_iff, decide_eq_true_eq, decide_eq_true_eq]
 exact ⟨fun h => by have h : (i : Int) < (t.length : Int) := h; omega, fun h => by show (i : Int) < (t.length : Int); omega⟩
theorem de {n : Int} (h : -1000000000000000 ≤ n ∧ n ≤ 1000000000000000) : IntKind.wrap .i64 n = n := yl (by omega) (by omega)
theorem je {P : ae → Prop} {A : Type} {e : A} {f : A → ae} (h : P (f e)) : ∀ q, q = e → P (f q) := fun q hq => by cases hq; exact h
theorem A3 {e : Ty} (l : List (den e)) (n : Nat) : cP e l 0 (mg (lnx e l) (n : Int)) = l.take n ∧ bu 0 (mg (lnx e l) (n : Int)) (lnx e l) := by
 have h : lnx e l = (l.length : Int) := rfl
 unfold cP eY mg bu
 rw [h]
 have h0 : Int.toNat 0 = 0 := rfl
 rw [h0, List.drop_zero]
 split
 ·rw [Int.toNat_natCast]
  exact ⟨rfl, by omega, by omega, by omega⟩
 ·rw [Int.toNat_natCast, List.take_length, List.take_of_length_le (by omega)]
  exact ⟨rfl, by omega, by omega, by omega⟩
theorem u7 {n : Int} (h : 0 ≤ n ∧ n ≤ 255) : IntKind.wrap .u8 n = n := by
 unfold IntKind.wrap
 simp only [IntKind.signed, IntKind.bits]
 simp
 omega
end Go.Proofs.Ytiaplhcifflibaa
namespace Go.Proofs.Ytiaplhcifflibaa
open Go Go.RowKit
def cH : (t : Ty) → den t → List Value
 | .int k, x => [.int k x]
 | .bool, x => [.bool x]
 | .str, x => [.string x]
 | .unit, _ => []
 | .pair a b, x => cH a x.1 ++ cH b x.2
 | .st b, x => cH b x
 | .arr _ e, x => x.flatMap (cH e)
 | .slc _, _ => []
 | .fn _ _, _ => []
 | .ref _, _ => []
 | .mp _ _, _ => []
 | .clo _ _, _ => []
theorem i4 {α β : Type} {f : α → List β} {k : Nat} : ∀ {xs : List α}, (∀ x ∈ xs, (f x).length = k) → (xs.flatMap f).length = xs.length * k
 | [], _ => by simp
 | x :: xs, h => by
  rw [List.flatMap_cons, List.length_append, h x List.mem_cons_self, i4 fun y hy => h y (List.mem_cons_of_mem _ hy), List.length_cons, Nat.add_mul, Nat.one_mul, Nat.add_comm]
theorem nw {P : Program} {O : Nat → Prop} {w : World} {e : Ty} {ok : den e → Prop} (h : ∀ cs x, Rep P e .cells O w cs x → cs = cH e x ∧ ok x) : ∀ {xs : List (den e)} {L : List Value}, RepAll (fun cs x => Rep P e .cells O w cs x) (siz e) L xs → L = xs.flatMap (cH e) ∧ ∀ x ∈ xs, ok x
 | [], L, hh => ⟨by rw [show L = [] from hh]; rfl, fun x hx => by cases hx⟩
 | x :: xs, L, hh => by
  obtain ⟨h1, h2⟩ := hh
  obtain ⟨e1, o1⟩ := h _ _ h1
  obtain ⟨e2, o2⟩ := nw h h2
  refine ⟨?_, fun y hy => ?_⟩
  ·rw [List.flatMap_cons, ← e1, ← e2, List.take_append_drop]
  ·rcases List.mem_cons.1 hy with rfl | hy
   ·exact o1
   ·exact o2 y hy
theorem nu {P : Program} {O : Nat → Prop} {w : World} {e : Ty} {ok : den e → Prop} (h : ∀ x, ok x → Rep P e .cells O w (cH e x) x) (hl : ∀ x, ok x → (cH e x).length = siz e) : ∀ {xs : List (den e)}, (∀ x ∈ xs, ok x) → RepAll (fun cs x => Rep P e .cells O w cs x) (siz e) (xs.flatMap (cH e)) xs
 | [], _ => rfl
 | x :: xs, hh => by
  have hx := hh x List.mem_cons_self
  refine ⟨?_, ?_⟩
  ·rw [List.flatMap_cons, List.take_append_of_le_length (by rw [hl x hx]; exact Nat.le_refl _), List.take_of_length_le (by rw [hl x hx]; exact Nat.le_refl _)]
   exact h x hx
  ·rw [List.flatMap_cons, List.drop_append_of_le_length (by rw [hl x hx]; exact Nat.le_refl _), List.drop_of_length_le (by rw [hl x hx]; exact Nat.le_refl _), List.nil_append]
   exact nu h hl fun y hy => hh y (List.mem_cons_of_mem _ hy)
theorem Ac {P : Program} {O : Nat → Prop} {w : World} : ∀ {t : Ty}, cN t = true → ∀ cs x, Rep P t .cells O w cs x → cs = cH t x ∧ okT t x := by
 intro t
 induction t with
 | int k => intro _ cs x h; exact ⟨h.1, h.2⟩
 | bool => intro _ cs x h; exact ⟨h, trivial⟩
 | str => intro _ cs x h; exact ⟨h.1, h.2⟩
 | unit => intro _ cs x h; exact ⟨h, trivial⟩
 | pair a b iha ihb =>
  intro hf cs x h
  simp only [cN, Bool.and_eq_true] at hf
  obtain ⟨e1, o1⟩ := iha hf.1 _ _ h.1
  obtain ⟨e2, o2⟩ := ihb hf.2 _ _ h.2
  refine ⟨?_, o1, o2⟩
  show cs = cH a x.1 ++ cH b x.2
  rw [← e1, ← e2, List.take_append_drop]
 | st b ih => intro hf cs x h; exact ih hf cs x h
 | arr n e ih =>
  intro hf cs x h
  obtain ⟨e1, o1⟩ := nw (ok := okT e) (ih hf) h.2
  exact ⟨e1, h.1, o1⟩
 | _ => intro hf; cases hf
theorem k9 : ∀ {t : Ty}, cN t = true → ∀ x, okT t x → (cH t x).length = siz t := by
 intro t
 induction t with
 | int k => intro _ x _; rfl
 | bool => intro _ x _; rfl
 | str => intro _ x _; rfl
 | unit => intro _ x _; rfl
 | pair a b iha ihb =>
  intro hf x h
  simp only [cN, Bool.and_eq_true] at hf
  show (cH a x.1 ++ cH b x.2).length = siz a + siz b
  rw [List.length_append, iha hf.1 _ h.1, ihb hf.2 _ h.2]
 | st b ih => intro hf x h; exact ih hf x h
 | arr n e ih =>
  intro hf x h
  show (List.flatMap (cH e) x).length = n * siz e
  rw [i4 fun y hy => ih hf y (h.2 y hy), h.1]
 | _ => intro hf; cases hf
theorem sw {P : Program} {O : Nat → Prop} {w : World} : ∀ {t : Ty}, cN t = true → ∀ x, okT t x → Rep P t .cells O w (cH t x) x := by
 intro t
 induction t with
 | int k => intro _ x h; exact ⟨rfl, h⟩
 | bool => intro _ x _; rfl
 | str => intro _ x h; exact ⟨rfl, h⟩
 | unit => intro _ x _; rfl
 | pair a b iha ihb =>
  intro hf x h
  simp only [cN, Bool.and_eq_true] at hf
  have hl := k9 hf.1 _ h.1
  refine ⟨?_, ?_⟩
  ·show Rep P a .cells O w ((cH a x.1 ++ cH b x.2).take (siz a)) x.1
   rw [List.take_append_of_le_length (by rw [hl]; exact Nat.le_refl _), List.take_of_length_le (by rw [hl]; exact Nat.le_refl _)]
   exact iha hf.1 _ h.1
  ·show Rep P b .cells O w ((cH a x.1 ++ cH b x.2).drop (siz a)) x.2
   rw [List.drop_append_of_le_length (by rw [hl]; exact Nat.le_refl _), List.drop_of_length_le (by rw [hl]; exact Nat.le_refl _), List.nil_append]
   exact ihb hf.2 _ h.2
 | st b ih => intro hf x h; exact ih hf x h
 | arr n e ih => intro hf x h; exact ⟨h.1, nu (ok := okT e) (ih hf) (k9 hf) h.2⟩
 | _ => intro hf; cases hf
theorem zd : ∀ {t : Ty}, cN t = true → ∀ x, ∀ v ∈ cH t x, v.oneCell' = true := by
 intro t
 induction t with
 | int k => intro _ x v hv; rw [List.mem_singleton.1 hv]; rfl
 | bool => intro _ x v hv; rw [List.mem_singleton.1 hv]; rfl
 | str => intro _ x v hv; rw [List.mem_singleton.1 hv]; rfl
 | unit => intro _ x v hv; cases hv
 | pair a b iha ihb =>
  intro hf x v hv
  simp only [cN, Bool.and_eq_true] at hf
  rcases List.mem_append.1 hv with hv | hv
  ·exact iha hf.1 _ v hv
  ·exact ihb hf.2 _ v hv
 | st b ih => intro hf x; exact ih hf x
 | arr n e ih =>
  intro hf x v hv
  obtain ⟨y, _, hy⟩ := List.mem_flatMap.1 hv
  exact ih hf y v hy
 | _ => intro hf; cases hf
theorem qA {α : Type} [Inhabited α] {f : α → List Value} {k : Nat} (hk : ∀ x, (f x).length = k) : ∀ (xs : List α) (t : Nat), t < xs.length * k → (xs.flatMap f)[t]? = (f (xs[t / k]?.getD default))[t % k]?
  | [], t, h => by simp at h
  | x :: xs, t, h => by
    rw [List.flatMap_cons, List.getElem?_append, hk]
    have k0 : 0 < k := by rcases Nat.eq_zero_or_pos k with e | e
                          · subst e; simp at h
                          · exact e
    split
    · rename_i hlt
      rw [Nat.div_eq_of_lt hlt, Nat.mod_eq_of_lt hlt]
      rfl
    · rename_i hge
      have hge : k ≤ t := by omega
      rw [List.length_cons, Nat.add_mul, Nat.one_mul] at h
      rw [qA hk xs (t - k) (by omega)]
      have e1 : t / k = (t - k) / k + 1 := by
        rw [Nat.div_eq_sub_div k0 hge]
      have e2 : t % k = (t - k) % k := Nat.mod_eq_sub_mod hge
      rw [e1, e2]
      rfl
theorem n1 {α : Type} [Inhabited α] (enc : α → List Value) (k : Nat) (hk : ∀ x, (enc x).length = k) (d : Array α) : (Sort.flatK enc k d).toList = d.toList.flatMap enc := by
 apply List.ext_getElem?
 intro t
 by_cases h : t < d.size * k
 ·have hl : t < (Sort.flatK enc k d).size := by rw [Sort.size_flatK]; exact h
  have h1 : (Sort.flatK enc k d)[t]? = some ((Sort.flatK enc k d)[t]!) := by rw [getElem!_pos (Sort.flatK enc k d) t hl, Array.getElem?_eq_getElem hl]
  rw [Array.getElem?_toList, h1, Sort.get_flatK enc k d t h, qA hk d.toList t (by rw [Array.length_toList]; exact h)]
  have e : d.toList[t / k]?.getD default = d[t / k]! := by rw [Array.getElem?_toList, getElem!_def]; cases d[t / k]? <;> rfl
  rw [e]
  have hm : t % k < (enc d[t / k]!).length := by
   rw [hk]
   refine Nat.mod_lt _ ?_
   rcases Nat.eq_zero_or_pos k with e | e
   ·subst e; simp at h
   ·exact e
  rw [List.getElem?_eq_getElem hm, getElem!_pos (enc d[t / k]!) (t % k) hm]
 ·rw [List.getElem?_eq_none (by rw [Array.length_toList, Sort.size_flatK]; omega), List.getElem?_eq_none (by rw [i4 (k := k) (fun x _ => hk x), Array.length_toList]; omega)]
theorem xJ {α : Type} [Inhabited α] {enc : α → List Value} {k : Nat} (hk : ∀ x, (enc x).length = k) {w : World} {g off : Nat} {d : Array α} {arr : Array Value} {eid : TypeId} (hg : w.heap[g]? = some (.cells arr eid (0, 0))) (hL : (arr.toList.drop off).take (d.size * k) = d.toList.flatMap enc) (hb : off + d.size * k ≤ arr.size) :
    Sort.HoldsK enc k w g off d := by
  intro j hj
  have hj' : j < d.size * k := by rw [Sort.size_flatK] at hj; exact hj
  have e1 : (Sort.flatK enc k d).toList[j]? = some ((Sort.flatK enc k d)[j]!) := by rw [Array.getElem?_toList, getElem!_pos (Sort.flatK enc k d) j hj, Array.getElem?_eq_getElem hj]
  rw [n1 enc k hk, ← hL, List.getElem?_take, if_pos hj', List.getElem?_drop, Array.getElem?_toList] at e1
  refine ⟨?_, ?_⟩
  · show (match w.heap[g]? with | some (.cells c _ _) => if (none : Option _).isSome then none else c[off + j]? | _ => none) = _
    rw [hg]
    exact e1
  · show (match w.heap[g]? with | some (.cells _ _ (lo, hi)) => decide (lo ≤ off + j) && decide (off + j < hi) | _ => false) = false
    rw [hg]
    simp
theorem rO {F arr : Array Value} {off : Nat} (h : off + F.size ≤ arr.size) : Sort.putCells id off F arr = (ah arr.toList off F.toList).toArray := by
 apply Array.ext_getElem?
 intro i
 unfold Sort.putCells ah
 simp only [List.append_assoc]
 refine Eq.trans ?_ (List.getElem?_toArray ..).symm
 rw [Array.getElem?_mapIdx, List.getElem?_append, List.length_take, Array.length_toList, Nat.min_eq_left (by omega), List.getElem?_append, Array.length_toList, List.getElem?_take, List.getElem?_drop, Array.getElem?_toList, Array.getElem?_toList, Array.getElem?_toList]
 by_cases h1 : i < off
 ·rw [if_pos h1, if_pos h1]
  have : arr[i]? = some arr[i] := Array.getElem?_eq_getElem (by omega)
  rw [this, Option.map_some, if_neg (by omega)]
 ·rw [if_neg h1]
  by_cases h2 : i - off < F.size
  ·have : arr[i]? = some arr[i] := Array.getElem?_eq_getElem (by omega)
   rw [if_pos h2, this, Option.map_some, if_pos ⟨by omega, by omega⟩, Array.getElem?_eq_getElem h2]
   congr 1
   exact getElem!_pos F (i - off) h2
  ·rw [if_neg h2, show off + F.size + (i - off - F.size) = i by omega]
   cases e : arr[i]? with
   | none => rfl
   | some z => rw [Option.map_some, if_neg (by omega)]
theorem yz {α : Type} [Inhabited α] {enc : α → List Value} {k : Nat} (hk : ∀ x, (enc x).length = k) {w : World} {g off n : Nat} {d : Array α} {os : Array Obj} {arr : Array Value} {eid : TypeId} (hg : w.heap[g]? = some (.cells arr eid (0, 0))) (hb : off + d.size * k ≤ arr.size) :
    Kept (w.setRow g (ah arr.toList off (d.toList.flatMap enc)).toArray) (Go.Proofs.sortWorldK enc k w g off n d os) := by
  have hF : (Sort.flatK enc k d).size = d.size * k := Sort.size_flatK ..
  have e0 : Sort.putCells id off (Sort.flatK enc k d) arr = (ah arr.toList off (d.toList.flatMap enc)).toArray := by
    rw [rO (by rw [hF]; exact hb), n1 enc k hk]
  have hlt : g < w.heap.size := (Array.getElem?_eq_some_iff.1 hg).1
  have hheap : (Sort.putRowK enc k (Sort.ahead w n) g off d).heap = (w.setRow g (ah arr.toList off (d.toList.flatMap enc)).toArray).heap := by
    apply Array.ext_getElem?
    intro b
    show (w.heap.modify g (Sort.onCells (Sort.putCells id off (Sort.flatK enc k d))))[b]? = _
    by_cases hbg : b = g
    · subst hbg
      rw [setRow_heap w b arr _ eid (0, 0) hg, Array.getElem?_modify, if_pos rfl, hg, Option.map_some]
      show some (Obj.cells (Sort.putCells id off (Sort.flatK enc k d) arr) eid (0, 0)) = _
      rw [e0]
    · rw [setRow_other w g b _ hbg, Array.getElem?_modify, if_neg (Ne.symm hbg)]
  refine ⟨rfl, ⟨rfl, fun _ => Nat.le_add_right _ _⟩, rfl, ?_, fun b hb' => ?_⟩
  · show _ ≤ ((Sort.putRowK enc k (Sort.ahead w n) g off d).heap ++ os).size
    rw [hheap, Array.size_append]
    exact Nat.le_add_right _ _
  · show ((Sort.putRowK enc k (Sort.ahead w n) g off d).heap ++ os)[b]? = _
    rw [hheap, Array.getElem?_append, if_pos hb']
theorem uB {w w' : World} (h : Kept w w') : ∃ q os, w' = Sort.grow (w.drewN q) os := by
 obtain ⟨h1, h2, h3, h4, h5⟩ := h
 refine ⟨w'.drawn - w.drawn, w'.heap.extract w.heap.size w'.heap.size, ?_⟩
 have hd := h2.le trivial
 have hh : w'.heap = w.heap ++ w'.heap.extract w.heap.size w'.heap.size := by
  apply Array.ext_getElem?
  intro b
  rw [Array.getElem?_append]
  split
  ·rename_i hb; exact h5 b hb
  ·rename_i hb
   rw [Array.getElem?_extract, Nat.add_sub_cancel' (by omega)]
   split
   ·rfl
   ·rename_i hb'
    exact Array.getElem?_eq_none (by omega)
 have ht := h2.eq
 cases w
 cases w'
 simp only at h1 h3 hh hd ht
 unfold Sort.grow World.drewN
 simp only [World.mk.injEq]
 exact ⟨hh, ht, by omega, h1, h3⟩
abbrev InT (e : Ty) (xs : List (den e)) := {x : den e // okT e x ∧ x ∈ xs}
abbrev lE (e : Ty) : Ty := .fn (.pair e (.pair e .unit)) (.pair af .unit)
def cfD (e : Ty) (f : den (lE e)) (x y : den e) : Int := (tJ (a := .pair e (.pair e .unit)) (r := .pair af .unit) f (x, y, ())).1
def ltD (e : Ty) (f : den (lE e)) (x y : den e) : Bool := decide (cfD e f x y < 0)
def jv (e : Ty) (xs : List (den e)) (x : InT e xs) : List Value := cH e x.1
theorem zn {P : Program} {e : Ty} (hfl : cN e = true) (hag : isAgg e = true) {xs : List (den e)} [Inhabited (InT e xs)] {O : Nat → Prop} {w : World} {g : Nat} (hO : ∀ b, O b → b < w.heap.size) (hg : O g) {q : den (.pair e (.pair e .unit)) → den (.pair af .unit)} {f : FuncId} {cb : Array Value}
    (hf : ∀ O' w', Lat O w O' w' → (∀ g, O' g → g < w'.heap.size) → ∀ vs x, Rep P (.pair e (.pair e .unit)) .chain O' w' vs x → Calls P f (vs.toArray ++ cb) w' fun e' w'' => ∃ v, e' = .returned v ∧ Kept w' w'' ∧ Rep P (.pair af .unit) .result O' w'' [v] (q x))
    {off size : Nat} : Go.Proofs.CmpLays P f cb (jv e xs) (siz e) (fun x y => cfD e (some q) x.1 y.1) g off size w := by
  intro m os dk hs x y
  have hlat : Lat O w O (Go.Proofs.sortWorldK (jv e xs) (siz e) w g off m dk os) := by
    refine ⟨?_, fun b hb hnb => ⟨?_, hnb⟩⟩
    · show _ ≤ ((w.heap.modify g _) ++ os).size
      rw [Array.size_append, Array.size_modify]
      exact Nat.le_add_right _ _
    · have hbg : ¬ g = b := fun h => hnb (h ▸ hg)
      show ((w.heap.modify g _) ++ os)[b]? = _
      rw [Array.getElem?_append, if_pos (by rw [Array.size_modify]; exact hb), Array.getElem?_modify, if_neg hbg]
  have hx : Rep P (.pair e (.pair e .unit)) .chain O (Go.Proofs.sortWorldK (jv e xs) (siz e) w g off m dk os) [.agg (jv e xs x).toArray, .agg (jv e xs y).toArray] (x.1, y.1, ()) := by
    have e1 : ∀ z : InT e xs, Value.agg (jv e xs z).toArray = al e (cH e z.1) := fun z => by unfold al; rw [hag]; rfl
    rw [e1 x, e1 y]
    exact ⟨[al e (cH e y.1)], cH e x.1, rfl, sw hfl _ x.2.1, [], cH e y.1, rfl, sw hfl _ y.2.1, rfl⟩
  have := hf O _ hlat (fun b hb => Nat.lt_of_lt_of_le (hO b hb) hlat.size) _ _ hx
  refine Calls.mono this ?_
  rintro e' w'' ⟨v, rfl, hk, rest, cs, hv, hi, hr⟩
  refine ⟨?_, ?_⟩
  · have hi : cs = [.int .i64 (q (x.1, y.1, ())).1] := hi.1
    subst hi
    have hv : [v] = [Value.int .i64 (q (x.1, y.1, ())).1] := hv
    have : v = Value.int .i64 (q (x.1, y.1, ())).1 := by simpa using hv
    rw [this]
    rfl
  · exact uB hk
def c6 (e : Ty) (f : den (lE e)) (xs : List (den e)) : List (den e) := xs.mergeSort fun x y => !ltD e f y x
structure eU (e : Ty) (f : den (lE e)) (xs : List (den e)) : Prop where
 fn : xo (a := .pair e (.pair e .unit)) (r := .pair af .unit) f
 swo : Sort.SWO (ltD e f)
 tot : ∀ x ∈ xs, ∀ y ∈ xs, ltD e f x y = false → ltD e f y x = false → x = y
 len : xs.length ≤ 1000000
@[reducible] def zP (e : Ty) : ef := ⟨e, true, .pair (lE e) .unit, false, fun xs y => eU e y.1 xs, fun xs y => c6 e y.1 xs⟩
theorem yW {P : Program} {Gl : eS} {e : Ty} (hfl : cN e = true) (hag : isAgg e = true) {fid : FuncId} (can : dF P fid)
    (none : ∀ (p : Option Addr) (cap : Nat) (fv : Value) (w : World), Calls P fid #[.slice p 0 cap, fv] w fun e' w' => e' = .returned (.tuple #[]) ∧ w' = w)
    (tot : ∀ {α : Type} [Inhabited α] (enc : α → List Value) (_ : ∀ x, (enc x).length = siz e) (_ : ∀ x, ∀ v ∈ enc x, v.oneCell' = true) (cf : α → α → Int) (_ : Sort.SWO (Go.Proofs.ltOf cf)) (g : Nat) (cb : Array Value) (blk off cap : Nat) (d : Array α) (w : World)
      (_ : ∀ args w, (callFunc g args).run P w = .ok (.enter g args) w) (_ : Go.Proofs.CmpLays P g cb enc (siz e) cf blk off d.size w) (_ : Sort.HoldsK enc (siz e) w blk off d) (_ : blk < w.heap.size) (_ : d.size < 4611686018427387904) (_ : ∀ x y, (Go.Proofs.ltOf cf) x y = false → (Go.Proofs.ltOf cf) y x = false → x = y),
      Calls P fid #[.slice (some ⟨blk, off, Option.none⟩) d.size cap, .func (.func g) #[] cb] w fun e' w' => e' = .returned (.tuple #[]) ∧ ∃ n os, w' = Go.Proofs.sortWorldK enc (siz e) w blk off n (d.toList.mergeSort fun x y => !(Go.Proofs.ltOf cf) y x).toArray os) :
    jZ P Gl fid (zP e) := by
  refine ⟨can, rfl, fun xs y _ => List.length_mergeSort .., fun O w a0 c vs y hO hgl hv hp => ?_, fun O w g off c arr eid xs vs y hO hg hgl hne hrow hb hc hm hrep hv hp => ?_⟩
  · obtain ⟨rest, cs, rfl, hf, hr⟩ := hv
    have hr : rest = [] := hr
    subst hr
    refine Calls.mono (none a0 c _ w) fun e' w' he => ⟨he.1, by rw [he.2]; exact Kept.refl w⟩
  · obtain ⟨f, ⟨⟩⟩ := y
    obtain ⟨rest, cs, rfl, hf, hr⟩ := hv
    have hr : rest = [] := hr
    subst hr
    obtain ⟨q, hq⟩ := hp.fn
    have hq : f = some q := hq
    subst hq
    obtain ⟨fi, captured, rfl, hcan, hdo⟩ := hf
    obtain ⟨hL, hok⟩ := nw (ok := okT e) (Ac hfl) hrep
    have hlx : xs.length ≤ 1000000 := hp.len
    let ys : List (InT e xs) := xs.attach.map fun x => ⟨x.1, hok x.1 x.2, x.2⟩
    have hys : ys.map (·.1) = xs := by
      show (xs.attach.map _).map _ = xs
      rw [List.map_map]
      exact List.attach_map_subtype_val xs
    have hyl : ys.length = xs.length := by simpa using congrArg List.length hys
    obtain ⟨y0, hy0⟩ : ∃ y0, y0 ∈ ys := by
      cases hc0 : ys with
      | nil => rw [hc0] at hys; exact absurd hys.symm hne
      | cons z zs => exact ⟨z, List.mem_cons_self⟩
    haveI : Inhabited (InT e xs) := ⟨y0⟩
    have hflat : ∀ zs : List (InT e xs), zs.flatMap (jv e xs) = (zs.map (·.1)).flatMap (cH e) := fun zs => by
      rw [List.flatMap_map]
      rfl
    have hk : ∀ x, (jv e xs x).length = siz e := fun x => k9 hfl _ x.2.1
    have hnb : ¬ e = .int .u8 := fun h => by rw [h] at hag; cases hag
    obtain ⟨fz, hgr, hfz⟩ := hrow
    have hfz : fz = (0, 0) := hfz.resolve_right fun h => hnb h.1
    subst hfz
    have hlt : g < w.heap.size := (Array.getElem?_eq_some_iff.1 hgr).1
    have hsz : ys.toArray.size = xs.length := by rw [List.size_toArray, hyl]
    have hH : Sort.HoldsK (jv e xs) (siz e) w g off ys.toArray := xJ hk hgr (by rw [hsz, hL]; show _ = ys.flatMap (jv e xs); rw [hflat, hys]) (by rw [hsz]; exact hb)
    have := tot (jv e xs) hk (fun x => zd hfl x.1) (fun x y => cfD e (some q) x.1 y.1) ⟨fun x => hp.swo.irrefl x.1, fun x y z => hp.swo.trans x.1 y.1 z.1, fun x y z => hp.swo.ntrans x.1 y.1 z.1⟩ fi captured g off c ys.toArray w hcan (zn hfl hag hO hg hdo) hH hlt (by rw [hsz]; omega)
      (fun x y h1 h2 => Subtype.ext (hp.tot x.1 x.2.2 y.1 y.2.2 h1 h2))
    rw [hsz] at this
    refine Calls.mono this ?_
    rintro e' w' ⟨rfl, n, os, rfl⟩
    refine ⟨rfl, (c6 e (some q) xs).flatMap (cH e), ?_, ?_, ?_⟩
    · have hmem : ∀ x ∈ c6 e (some q) xs, x ∈ xs := fun x hx => (List.mem_mergeSort).1 hx
      have hlen : (c6 e (some q) xs).length = xs.length := List.length_mergeSort ..
      rw [i4 (k := siz e) fun x hx => k9 hfl x (hok x (hmem x hx)), hlen]
    · have hmem : ∀ x ∈ c6 e (some q) xs, x ∈ xs := fun x hx => (List.mem_mergeSort).1 hx
      exact nu (ok := okT e) (sw hfl) (k9 hfl) fun x hx => hok x (hmem x hx)
    · have hs : ((ys.mergeSort fun x y => !(Go.Proofs.ltOf fun (x y : InT e xs) => cfD e (some q) x.1 y.1) y x).map (·.1)) = c6 e (some q) xs := by
        have := List.map_mergeSort (r := fun x y => !(Go.Proofs.ltOf fun (x y : InT e xs) => cfD e (some q) x.1 y.1) y x) (s := fun x y => !ltD e (some q) y x) (f := fun x : InT e xs => x.1) (l := ys) (fun a _ b _ => rfl)
        rw [hys] at this
        exact this
      have hk2 := yz (enc := jv e xs) hk (n := n) (os := os) (d := (ys.mergeSort fun x y => !(Go.Proofs.ltOf fun (x y : InT e xs) => cfD e (some q) x.1 y.1) y x).toArray) hgr (off := off) (by rw [List.size_toArray, List.length_mergeSort, hyl]; exact hb)
      rw [hflat, hs] at hk2
      exact hk2
end Go.Proofs.Ytiaplhcifflibaa
namespace Go.Proofs.Ytiaplhcifflibaa
open Go Go.RowKit
noncomputable abbrev g6 : ar := { T := cj, F := [], n := (fk).ntmps }
noncomputable abbrev kU : Ann := { }
theorem p7 : bM prog g6 := tO ((bI bK bh))
theorem pu : cU g6 = true := by kernel_rfl
noncomputable def k5 (x : den (Ty.int IntKind.u8)) : aI := aI.ret (K.val (Ty.pair Ty.bool Ty.unit) (!decide (x = x), PUnit.unit))
theorem nQ (x : den (Ty.int IntKind.u8)) : dP g6 kU jQ fk 1000 (aG fk) (Env.of (a8 jO (x, ()) 0) []) = k5 x := by kernel_rfl
end Go.Proofs.Ytiaplhcifflibaa
namespace Go.Proofs.Ytiaplhcifflibaa
open Go Go.RowKit
noncomputable abbrev gZ : bU := ⟨jO, jQ, fun _ => (false, ()), fun _ => True, true⟩
theorem qh : aP prog [] fp gZ :=
 u4 p7 pu pt (by kernel_rfl) (fun _ _ => trivial) (A := kU) (T := fun x => k5 x.1) (fun x => nQ x.1) fun O w0 x _ _ => by
  refine ⟨_, rfl, ?_⟩
  simp
end Go.Proofs.Ytiaplhcifflibaa
namespace Go.Proofs.Ytiaplhcifflibaa
open Go Go.RowKit
noncomputable abbrev gf : ar := { T := cj, F := [(fp, gZ)], n := (dZ).ntmps }
noncomputable abbrev jq : Ann := { }
theorem oW (h_cmp_isNaN_byte : aP prog [] fp gZ) : bM prog gf := tO (a7 (bI bK bh) h_cmp_isNaN_byte)
theorem nS : cU gf = true := by kernel_rfl
noncomputable def jn (x : den (Ty.int IntKind.u8)) (y : den (Ty.int IntKind.u8)) : aI := aI.req True (aI.req True (aI.ite false (aI.ite false (aI.ret (K.val (Ty.pair af Ty.unit) (0, PUnit.unit))) (aI.ret (K.val (Ty.pair af Ty.unit) (-1, PUnit.unit)))) (aI.ite false (aI.ret (K.val (Ty.pair af Ty.unit) (1, PUnit.unit))) (aI.ite (decide (x < y)) (aI.ret (K.val (Ty.pair af Ty.unit) (-1, PUnit.unit))) (aI.ite (decide (y < x)) (aI.ret (K.val (Ty.pair af Ty.unit) (1, PUnit.unit))) (aI.ret (K.val (Ty.pair af Ty.unit) (0, PUnit.unit))))))))
theorem mS (x : den (Ty.int IntKind.u8)) (y : den (Ty.int IntKind.u8)) : dP gf jq iG dZ 1000 (aG dZ) (Env.of (a8 iF (x, y, ()) 0) []) = jn x y := by kernel_rfl
noncomputable abbrev fH : ar := { T := cj, F := [], n := (bH).ntmps }
noncomputable abbrev mf : Ann := { loops := [(4, { keep := [2, 3, 4, 5, 6, 7] })] }
theorem l7 : bM prog fH := tO ((bI bK bh))
theorem li : cU fH = true := by kernel_rfl
noncomputable def pE (a : den tId) (b : den tId) : aI := aI.loop (lp bH 4) [(2, K.ptr 2 tId []), (3, K.ptr 3 tId []), (4, K.ptr 4 tId []), (5, K.ptr 5 tId []), (6, K.val af 0), (7, K.val af 31)] [(2, Bx.cell tId a), (3, Bx.cell tId b), (4, Bx.cell tId (zero tId)), (5, Bx.cell tId (zero tId))]
theorem sO (a : den tId) (b : den tId) : dP fH mf gq bH 1000 (aG bH) (Env.of (a8 nV (a, b, ()) 0) []) = pE a b := by kernel_rfl
noncomputable def jM (v6 : den af) (v7 : den af) (b2 : den tId) (b3 : den tId) (b4 : den tId) (b5 : den tId) : Env := Env.of [(2, K.ptr 2 tId []), (3, K.ptr 3 tId []), (4, K.ptr 4 tId []), (5, K.ptr 5 tId []), (6, K.val af v6), (7, K.val af v7)] [(2, Bx.cell tId b2), (3, Bx.cell tId b3), (4, Bx.cell tId b4), (5, Bx.cell tId b5)]
noncomputable def rY (v6 : den af) (v7 : den af) (b2 : den tId) (b3 : den tId) (b4 : den tId) (b5 : den tId) : aI := aI.ite (decide (0 ≤ v7)) (aI.req (inB v7 ↑32) (aI.req (inB v7 ↑32) (aI.ite (decide (IntKind.wrap IntKind.i64 (IntKind.wrap IntKind.i64 (IntKind.wrap IntKind.i64 (el (Ty.int IntKind.u8) b3 v7) - IntKind.wrap IntKind.i64 (el (Ty.int IntKind.u8) b2 v7)) - v6) < 0)) (aI.req (inB v7 ↑32) (aI.loop (lp bH 4) [(2, K.ptr 2 tId []), (3, K.ptr 3 tId []), (4, K.ptr 4 tId []), (5, K.ptr 5 tId []), (6, K.val af 1), (7, K.val af (IntKind.wrap IntKind.i64 (v7 - 1)))] [(2, Bx.cell tId b2), (3, Bx.cell tId b3), (4, Bx.cell tId b4), (5, Bx.cell tId (uG (Ty.int IntKind.u8) b5 v7 (IntKind.wrap IntKind.u8 (IntKind.wrap IntKind.i64 (IntKind.wrap IntKind.i64 (IntKind.wrap IntKind.i64 (IntKind.wrap IntKind.i64 (el (Ty.int IntKind.u8) b3 v7) - IntKind.wrap IntKind.i64 (el (Ty.int IntKind.u8) b2 v7)) - v6) + 256)))))])) (aI.req (inB v7 ↑32) (aI.loop (lp bH 4) [(2, K.ptr 2 tId []), (3, K.ptr 3 tId []), (4, K.ptr 4 tId []), (5, K.ptr 5 tId []), (6, K.val af 0), (7, K.val af (IntKind.wrap IntKind.i64 (v7 - 1)))] [(2, Bx.cell tId b2), (3, Bx.cell tId b3), (4, Bx.cell tId b4), (5, Bx.cell tId (uG (Ty.int IntKind.u8) b5 v7 (IntKind.wrap IntKind.u8 (IntKind.wrap IntKind.i64 (IntKind.wrap IntKind.i64 (IntKind.wrap IntKind.i64 (el (Ty.int IntKind.u8) b3 v7) - IntKind.wrap IntKind.i64 (el (Ty.int IntKind.u8) b2 v7)) - v6)))))]))))) (aI.ret (K.val (Ty.pair tId Ty.unit) (b5, PUnit.unit)))
theorem jP (v6 : den af) (v7 : den af) (b2 : den tId) (b3 : den tId) (b4 : den tId) (b5 : den tId) : dP fH mf gq bH 1000 (lp bH 4) (jM v6 v7 b2 b3 b4 b5) = rY v6 v7 b2 b3 b4 b5 := by kernel_rfl
end Go.Proofs.Ytiaplhcifflibaa
namespace Go.Proofs.Ytiaplhcifflibaa
open Go Go.RowKit
def fo (x y : Int) : Int := if x < y then -1 else if y < x then 1 else 0
noncomputable abbrev gp : bU := ⟨iF, iG, fun x => (fo x.1 x.2.1, ()), fun _ => True, true⟩
theorem ga : aP prog [] d6 gp :=
 u4 (oW qh) nS nR (by kernel_rfl) (fun _ _ => trivial) (A := jq) (T := fun x => jn x.1 x.2.1) (fun x => mS x.1 x.2.1) fun O w0 x _ _ => by
  refine ⟨trivial, trivial, fun h => (by cases h), fun _ => ⟨fun h => (by cases h), fun _ => ⟨fun h => ⟨_, rfl, ?_⟩, fun h => ⟨fun h' => ⟨_, rfl, ?_⟩, fun h' => ⟨_, rfl, ?_⟩⟩⟩⟩⟩
  ·simp [fo, of_decide_eq_true h]
  ·simp [fo, of_decide_eq_false h, of_decide_eq_true h']
  ·simp [fo, of_decide_eq_false h, of_decide_eq_false h']
end Go.Proofs.Ytiaplhcifflibaa
namespace Go.Proofs.Ytiaplhcifflibaa
open Go
def byt (l : List Int) : Prop := ∀ x ∈ l, 0 ≤ x ∧ x ≤ 255
theorem iV {x : Int} {l : List Int} : byt (x :: l) ↔ (0 ≤ x ∧ x ≤ 255) ∧ byt l := by
 simp [byt]
theorem oZ {x : den tId} (h : okT tId x) : x.length = 32 ∧ byt x :=
 ⟨h.1, fun y hy => by
  have : InK .u8 y := h.2 y hy
  have h1 : IntKind.min .u8 = 0 := by decide
  have h2 : IntKind.max .u8 = 255 := by decide
  unfold InK at this
  rw [h1, h2] at this
  exact this⟩
def vB : List Int → Int
 | [] => 0
 | x :: l => x * 256 ^ l.length + vB l
theorem nf (n : Nat) : (0 : Int) < 256 ^ n := Int.pow_pos (by decide)
theorem iL : ∀ {l : List Int}, byt l → 0 ≤ vB l ∧ vB l < 256 ^ l.length
 | [], _ => by simp [vB]
 | x :: l, h => by
  obtain ⟨hx, hl⟩ := iV.1 h
  obtain ⟨h1, h2⟩ := iL hl
  have hp := nf l.length
  have h3 : 0 ≤ x * 256 ^ l.length := Int.mul_nonneg hx.1 (Int.le_of_lt hp)
  have h4 : x * 256 ^ l.length ≤ 255 * 256 ^ l.length := Int.mul_le_mul_of_nonneg_right hx.2 (Int.le_of_lt hp)
  rw [List.length_cons, Int.pow_succ]
  simp only [vB]
  omega
def toB : Nat → Int → List Int
 | 0, _ => []
 | n + 1, v => v / 256 ^ n :: toB n (v % 256 ^ n)
theorem nr : ∀ (n : Nat) (v : Int), (toB n v).length = n
 | 0, _ => rfl
 | n + 1, v => by simp [toB, nr n]
theorem rJ : ∀ {l : List Int}, byt l → toB l.length (vB l) = l
 | [], _ => rfl
 | x :: l, h => by
  obtain ⟨hx, hl⟩ := iV.1 h
  obtain ⟨h1, h2⟩ := iL hl
  have hp := nf l.length
  have e1 : (x * 256 ^ l.length + vB l) / 256 ^ l.length = x := by
   rw [Int.add_comm, Int.add_mul_ediv_right _ _ (by omega), Int.ediv_eq_zero_of_lt h1 h2]; omega
  have e2 : (x * 256 ^ l.length + vB l) % 256 ^ l.length = vB l := by
   rw [Int.add_comm, Int.add_mul_emod_self_right, Int.emod_eq_of_lt h1 h2]
  show (x * 256 ^ l.length + vB l) / 256 ^ l.length :: toB l.length ((x * 256 ^ l.length + vB l) % 256 ^ l.length) = x :: l
  rw [e1, e2, rJ hl]
theorem qb : ∀ (n : Nat) {v : Int}, 0 ≤ v → v < 256 ^ n → byt (toB n v) ∧ vB (toB n v) = v
 | 0, v, h0, h1 => ⟨by simp [toB, byt], by simp at h1; simp [toB, vB]; omega⟩
 | n + 1, v, h0, h1 => by
  have hp := nf n
  obtain ⟨i1, i2⟩ := qb n (Int.emod_nonneg v (by omega)) (Int.emod_lt_of_pos v hp)
  rw [Int.pow_succ] at h1
  have hd : v / 256 ^ n ≤ 255 := by
   have : v / 256 ^ n < 256 := Int.ediv_lt_of_lt_mul hp (by rw [Int.mul_comm]; exact h1)
   omega
  refine ⟨iV.2 ⟨⟨Int.ediv_nonneg h0 (Int.le_of_lt hp), hd⟩, i1⟩, ?_⟩
  show v / 256 ^ n * 256 ^ (toB n _).length + vB (toB n _) = v
  rw [i2, nr]
  have := Int.mul_ediv_add_emod v (256 ^ n)
  rw [Int.mul_comm]
  exact this
theorem AM {a b : List Int} (hl : a.length = b.length) (ha : byt a) (hb : byt b) (h : vB a = vB b) : a = b := by
 rw [← rJ ha, ← rJ hb, h, hl]
def kC : List Int → List Int → Int
 | [], [] => 0
 | [], _ :: _ => -1
 | _ :: _, [] => 1
 | x :: xs, y :: ys => if fo x y = 0 then kC xs ys else fo x y
theorem sW {x y : Int} : fo x y = 0 ↔ x = y := by
 unfold fo; split
 ·omega
 ·split <;> omega
theorem wE : ∀ {a b : List Int}, a.length = b.length → byt a → byt b → kC a b = fo (vB a) (vB b)
 | [], [], _, _, _ => by simp [kC, vB, fo]
 | [], _ :: _, h, _, _ => by simp at h
 | _ :: _, [], h, _, _ => by simp at h
 | x :: xs, y :: ys, h, ha, hb => by
  obtain ⟨hx, ha⟩ := iV.1 ha
  obtain ⟨hy, hb⟩ := iV.1 hb
  have hl : xs.length = ys.length := by simpa using h
  have ih := wE hl ha hb
  obtain ⟨a1, a2⟩ := iL ha
  obtain ⟨b1, b2⟩ := iL hb
  rw [hl] at a2
  simp only [kC, vB]
  rw [hl]
  have hp := nf ys.length
  generalize (256 : Int) ^ ys.length = p at *
  split
  ·rename_i e
   rw [ih, sW.1 e]
   unfold fo
   split
   ·rw [if_pos (by omega)]
   ·split
    ·rw [if_neg (by omega), if_pos (by omega)]
    ·rw [if_neg (by omega), if_neg (by omega)]
  ·rename_i e
   have e : ¬ x = y := fun h => e (sW.2 h)
   rcases Int.lt_or_gt_of_ne e with hlt | hgt
   ·have : (x + 1) * p ≤ y * p := Int.mul_le_mul_of_nonneg_right hlt (Int.le_of_lt hp)
    rw [Int.add_mul, Int.one_mul] at this
    unfold fo
    rw [if_pos hlt, if_pos (by omega)]
   ·have : (y + 1) * p ≤ x * p := Int.mul_le_mul_of_nonneg_right hgt (Int.le_of_lt hp)
    rw [Int.add_mul, Int.one_mul] at this
    unfold fo
    rw [if_neg (by omega), if_pos hgt, if_neg (by omega), if_pos (by omega)]
def cF : Int := 256 ^ 32
def aO (a b : List Int) : List Int := toB 32 ((vB b - vB a) % cF)
theorem wl {l : List Int} {i : Nat} (h : i < l.length) : vB (l.drop i) = l[i] * 256 ^ (l.length - (i + 1)) + vB (l.drop (i + 1)) := by
 rw [List.drop_eq_getElem_cons h]
 simp [vB]
theorem pO {l : List Int} {i : Nat} (h : i < l.length) (y : Int) : (l.set i y).drop i = y :: l.drop (i + 1) := by
 rw [List.drop_eq_getElem_cons (by simpa using h), List.getElem_set_self, List.drop_set_of_lt (by omega)]
end Go.Proofs.Ytiaplhcifflibaa
namespace Go.Proofs.Ytiaplhcifflibaa
open Go Go.RowKit
noncomputable abbrev mh : bU := ⟨nV, gq, fun x => (aO x.1 x.2.1, ()), fun _ => True, true⟩
theorem nW (O : Nat → Prop) (w0 : World) (a b z : List Int) (ha : a.length = 32) (hb : b.length = 32) (ba : byt a) (bb : byt b) : ∀ (i : Nat) (less : Int) (out : List Int), i ≤ 32 → out.length = 32 → (less = 0 ∨ less = 1) → byt (out.drop i) →
    vB (out.drop i) = vB (b.drop i) - vB (a.drop i) + less * 256 ^ (32 - i) →
    dW prog fH O w0 bH (cV prog O w0 gq fun y => y = (aO a b, ())) (lp bH 4) (jM less ((i : Int) - 1) a b z out)
  | 0, less, out, _, ho, hless, hby, hv => rD l7 li (jP less _ a b z out) ⟨fun h => by
      have h : (0 : Int) ≤ ((0 : Nat) : Int) - 1 := of_decide_eq_true h
      omega, fun _ => ⟨_, rfl, by
        simp only [List.drop_zero] at hby hv
        have r := iL hby
        rw [ho] at r
        have e : (vB b - vB a) % cF = vB out := by
          have : vB b - vB a = vB out + (-less) * cF := by
            unfold cF
            rw [hv, Int.neg_mul]; omega
          rw [this, Int.add_mul_emod_self_right]
          exact Int.emod_eq_of_lt r.1 r.2
        have : aO a b = out := by
          unfold aO
          rw [e, ← ho, rJ hby]
        rw [this]⟩⟩
  | i + 1, less, out, hi, ho, hless, hby, hv => rD l7 li (jP less _ a b z out) ⟨fun _ => by
      have ei : (((i + 1 : Nat) : Int) - 1) = ((i : Nat) : Int) := by omega
      rw [ei]
      have h1 : i < a.length := by omega
      have h2 : i < b.length := by omega
      have h3 : i < out.length := by omega
      rw [ed (e := .int .u8) h1, ed (e := .int .u8) h2]
      obtain ⟨a0, a1⟩ := ba _ (List.getElem_mem h1)
      obtain ⟨b0, b1⟩ := bb _ (List.getElem_mem h2)
      rw [de (n := a[i]) (by omega), de (n := b[i]) (by omega), de (n := b[i] - a[i]) (by omega), de (n := b[i] - a[i] - less) (by omega)]
      have hs : ∀ y : Int, uG (.int .u8) out (i : Nat) y = out.set i y := fun y => rfl
      have hp : (256 : Int) ^ (32 - i) = 256 * 256 ^ (31 - i) := by
        rw [show 32 - i = (31 - i) + 1 by omega, Int.pow_succ, Int.mul_comm]
      have hq : 32 - (i + 1) = 31 - i := by omega
      rw [hq] at hv
      have va := wl h1
      have vb := wl h2
      rw [ha, hq] at va
      rw [hb, hq] at vb
      have step : ∀ y less' : Int, 0 ≤ y ∧ y ≤ 255 → (less' = 0 ∨ less' = 1) → y = b[i] - a[i] - less + 256 * less' →
          dW prog fH O w0 bH (cV prog O w0 gq fun y => y = (aO a b, ())) (lp bH 4) (jM less' ((i : Int) - 1) a b z (out.set i y)) := by
        intro y less' hy hl' e
        refine nW O w0 a b z ha hb ba bb i less' (out.set i y) (by omega) (by simpa using ho) hl' ?_ ?_
        · rw [pO h3]; exact iV.2 ⟨hy, hby⟩
        · rw [pO h3, va, vb, hp]
          simp only [vB, List.length_drop, ho, hq]
          rw [hv, e]
          generalize (256 : Int) ^ (31 - i) = p
          simp only [Int.sub_mul, Int.add_mul]
          have : 256 * less' * p = less' * (256 * p) := by rw [Int.mul_comm 256 less', Int.mul_assoc]
          omega
      refine ⟨cT (n := 32) (by omega), cT (n := 32) (by omega), fun h => ⟨cT (n := 32) (by omega), ?_⟩, fun h => ⟨cT (n := 32) (by omega), ?_⟩⟩
      · have h : b[i] - a[i] - less < 0 := of_decide_eq_true h
        rw [hs, de (n := b[i] - a[i] - less + 256) (by omega), u7 (by omega), de (by omega)]
        exact step _ 1 (by omega) (.inr rfl) (by omega)
      · have h : ¬ b[i] - a[i] - less < 0 := of_decide_eq_false h
        rw [hs, u7 (by omega), de (by omega)]
        exact step _ 0 (by omega) (.inl rfl) (by omega), fun h => by
      have h : ¬ (0 : Int) ≤ ((i + 1 : Nat) : Int) - 1 := of_decide_eq_false h
      omega⟩
theorem vP : aP prog [] jb mh :=
 u4 l7 li t7 (by kernel_rfl) (fun _ _ => trivial) (A := mf) (T := fun x => pE x.1 x.2.1) (fun x => sO x.1 x.2.1) fun O w0 x hk _ => by
  obtain ⟨la, ba⟩ := oZ hk.1
  obtain ⟨lb, bb⟩ := oZ hk.2.1
  have hz : (zero tId : List Int).length = 32 := by simp [zero]
  exact nW O w0 x.1 x.2.1 (zero tId) la lb ba bb 32 0 (zero tId) (Nat.le_refl _) hz (.inl rfl) (by rw [List.drop_eq_nil_of_le (by omega)]; simp [byt])
   (by rw [List.drop_eq_nil_of_le (by omega), List.drop_eq_nil_of_le (by omega), List.drop_eq_nil_of_le (by omega)]; simp [vB])
end Go.Proofs.Ytiaplhcifflibaa
namespace Go.Proofs.Ytiaplhcifflibaa
open Go Go.RowKit
end Go.Proofs.Ytiaplhcifflibaa
namespace Go.Proofs.Ytiaplhcifflibaa
open Go Go.RowKit
noncomputable abbrev cx : ar := { T := cj, F := [(d6, gp)], n := (aN).ntmps }
noncomputable abbrev eW : Ann := { loops := [(2, { keep := [0, 1, 9, 10, 11] })] }
theorem eZ (h_cmp_Compare_byte : aP prog [] d6 gp) : bM prog cx := tO (a7 (bI bK bh) h_cmp_Compare_byte)
theorem eC : cU cx = true := by kernel_rfl
noncomputable def ib (s1 : den (Ty.slc (Ty.int IntKind.u8))) (s2 : den (Ty.slc (Ty.int IntKind.u8))) : aI := aI.loop (lp aN 2) [(0, K.val (Ty.slc (Ty.int IntKind.u8)) s1), (1, K.val (Ty.slc (Ty.int IntKind.u8)) s2), (9, K.val (Ty.slc (Ty.int IntKind.u8)) s1), (10, K.val af (lnx (Ty.int IntKind.u8) s1)), (11, K.val af 0)] []
theorem kA (s1 : den (Ty.slc (Ty.int IntKind.u8))) (s2 : den (Ty.slc (Ty.int IntKind.u8))) : dP cx eW c5 aN 1000 (aG aN) (Env.of (a8 gR (s1, s2, ()) 0) []) = ib s1 s2 := by kernel_rfl
noncomputable def gF (v0 : den (Ty.slc (Ty.int IntKind.u8))) (v1 : den (Ty.slc (Ty.int IntKind.u8))) (v9 : den (Ty.slc (Ty.int IntKind.u8))) (v10 : den af) (v11 : den af) : Env := Env.of [(0, K.val (Ty.slc (Ty.int IntKind.u8)) v0), (1, K.val (Ty.slc (Ty.int IntKind.u8)) v1), (9, K.val (Ty.slc (Ty.int IntKind.u8)) v9), (10, K.val af v10), (11, K.val af v11)] []
noncomputable def kp (v0 : den (Ty.slc (Ty.int IntKind.u8))) (v1 : den (Ty.slc (Ty.int IntKind.u8))) (v9 : den (Ty.slc (Ty.int IntKind.u8))) (v10 : den af) (v11 : den af) : aI := aI.ite (decide (v11 < v10)) (aI.req (inB v11 (lnx (Ty.int IntKind.u8) v9)) (aI.ite (decide (lnx (Ty.int IntKind.u8) v1 ≤ v11)) (aI.ret (K.val (Ty.pair af Ty.unit) (1, PUnit.unit))) (aI.req (inB v11 (lnx (Ty.int IntKind.u8) v1)) (aI.req True (aI.ite (!decide (fo (el (Ty.int IntKind.u8) v9 v11) (el (Ty.int IntKind.u8) v1 v11) = 0)) (aI.ret (K.val (Ty.pair af Ty.unit) (fo (el (Ty.int IntKind.u8) v9 v11) (el (Ty.int IntKind.u8) v1 v11), PUnit.unit))) (aI.loop (lp aN 2) [(0, K.val (Ty.slc (Ty.int IntKind.u8)) v0), (1, K.val (Ty.slc (Ty.int IntKind.u8)) v1), (9, K.val (Ty.slc (Ty.int IntKind.u8)) v9), (10, K.val af v10), (11, K.val af (IntKind.wrap IntKind.i64 (v11 + 1)))] [])))))) (aI.ite (decide (lnx (Ty.int IntKind.u8) v0 < lnx (Ty.int IntKind.u8) v1)) (aI.ret (K.val (Ty.pair af Ty.unit) (-1, PUnit.unit))) (aI.ret (K.val (Ty.pair af Ty.unit) (0, PUnit.unit))))
theorem fe (v0 : den (Ty.slc (Ty.int IntKind.u8))) (v1 : den (Ty.slc (Ty.int IntKind.u8))) (v9 : den (Ty.slc (Ty.int IntKind.u8))) (v10 : den af) (v11 : den af) : dP cx eW c5 aN 1000 (lp aN 2) (gF v0 v1 v9 v10 v11) = kp v0 v1 v9 v10 v11 := by kernel_rfl
end Go.Proofs.Ytiaplhcifflibaa
namespace Go.Proofs.Ytiaplhcifflibaa
open Go Go.RowKit
noncomputable abbrev eX : bU := ⟨gR, c5, fun x => (kC x.1 x.2.1, ()), fun _ => True, true⟩
theorem sB (a : List Int) : kC a [] = if a = [] then 0 else 1 := by
 cases a <;> rfl
def mn (O : Nat → Prop) (w0 : World) (a b : List Int) (hm : a.length ≤ maxLen) :=
 PLift.up <| w9 (P := prog) (D := cx) (fn := aN) (rs := c5) (O := O) (w0 := w0) (todo := lp aN 2) (σ := Unit) a.length
  (fun i _ => gF a b a (lnx (.int .u8) a) i) (fun i _ => i ≤ b.length) (fun i _ y => y = (kC (a.drop i) (b.drop i), ()))
  (fun i _ hi hb ih => rD (eZ ga) eC (fe a b a _ _) ⟨fun _ => by
   refine ⟨cT hi, fun h => ⟨_, rfl, ?_⟩, fun h => ?_⟩
   ·have h : (b.length : Int) ≤ (i : Int) := of_decide_eq_true h
    rw [List.drop_eq_nil_of_le (show b.length ≤ i by omega), sB, if_neg (fun e => by have := congrArg List.length e; simp at this; omega)]
   ·have h : ¬ (b.length : Int) ≤ (i : Int) := of_decide_eq_false h
    have hi' : i < b.length := by omega
    rw [ed (e := .int .u8) hi, ed (e := .int .u8) hi', kJ hi hm]
    refine ⟨cT hi', trivial, fun h => ⟨_, rfl, ?_⟩, fun h => dW.mono (fun y hy => ?_) (ih () (by omega))⟩
    ·have h : ¬ fo a[i] b[i] = 0 := by simpa using h
     rw [List.drop_eq_getElem_cons hi, List.drop_eq_getElem_cons hi']
     simp only [kC, if_neg h]
    ·have h : fo a[i] b[i] = 0 := by simpa using h
     rw [hy, List.drop_eq_getElem_cons hi, List.drop_eq_getElem_cons hi']
     simp only [kC, if_pos h], fun h => by
   have h : ¬ (i : Int) < (a.length : Int) := of_decide_eq_false h
   omega⟩)
  (fun s hb => rD (eZ ga) eC (fe a b a _ _) ⟨fun h => by
   have h : (a.length : Int) < (a.length : Int) := of_decide_eq_true h
   omega, fun _ => ⟨fun h => ⟨_, rfl, by
    have h : (a.length : Int) < (b.length : Int) := of_decide_eq_true h
    rw [List.drop_eq_nil_of_le (Nat.le_refl _), List.drop_eq_getElem_cons (show a.length < b.length by omega)]
    rfl⟩, fun h => ⟨_, rfl, by
    have h : ¬ (a.length : Int) < (b.length : Int) := of_decide_eq_false h
    rw [List.drop_eq_nil_of_le (Nat.le_refl _), List.drop_eq_nil_of_le (show b.length ≤ a.length by omega)]
    rfl⟩⟩⟩)
theorem mB : aP prog [] dp eX :=
 u4 (eZ ga) eC ma (by kernel_rfl) (fun _ _ => trivial) (A := eW) (T := fun x => ib x.1 x.2.1) (fun x => kA x.1 x.2.1) fun O w0 x hk _ =>
  (mn O w0 x.1 x.2.1 hk.1.1).down 0 () (Nat.zero_le _) (Nat.zero_le _)
end Go.Proofs.Ytiaplhcifflibaa
namespace Go.Proofs.Ytiaplhcifflibaa
open Go Go.RowKit
def jc (a b : List Int) : Int := fo (vB a) (vB b)
end Go.Proofs.Ytiaplhcifflibaa
namespace Go.Proofs.Ytiaplhcifflibaa
open Go Go.RowKit
noncomputable abbrev it : ar := { T := cj, F := [(dp, eX)], n := (fR).ntmps }
noncomputable abbrev lV : Ann := { frz := [(1, [2, 3])] }
theorem qT (h_slices_Compare_byte : aP prog [] dp eX) : bM prog it := tO (a7 (bI bK bh) h_slices_Compare_byte)
theorem pX : cU it = true := by kernel_rfl
noncomputable def lK (a : den tId) (b : den tId) : aI := aI.req (bu 0 ↑32 ↑32) (aI.req (bu 0 ↑32 ↑32) (aI.req True (aI.ret (K.val (Ty.pair af Ty.unit) (kC (cP (Ty.int IntKind.u8) a 0 ↑32) (cP (Ty.int IntKind.u8) b 0 ↑32), PUnit.unit)))))
theorem oS (a : den tId) (b : den tId) : dP it lV kY fR 1000 (aG fR) (Env.of (a8 kh (a, b, ()) 0) []) = lK a b := by kernel_rfl
end Go.Proofs.Ytiaplhcifflibaa
namespace Go.Proofs.Ytiaplhcifflibaa
open Go Go.RowKit
noncomputable abbrev iw : bU := ⟨kh, kY, fun x => (jc x.1 x.2.1, ()), fun _ => True, true⟩
theorem rh : aP prog [] fT iw :=
 u4 (qT mB) pX qw (by kernel_rfl) (fun _ _ => trivial) (A := lV) (T := fun x => lK x.1 x.2.1) (fun x => oS x.1 x.2.1) fun O w0 x hk _ => by
  obtain ⟨la, ba⟩ := oZ hk.1
  obtain ⟨lb, bb⟩ := oZ hk.2.1
  have hc : ∀ l : List Int, l.length = 32 → cP (.int .u8) l 0 32 = l := fun l hl => by
   show (l.take 32).drop 0 = l
   rw [List.drop_zero, ← hl, List.take_length]
  refine ⟨⟨Int.le_refl _, by decide, Int.le_refl _⟩, ⟨Int.le_refl _, by decide, Int.le_refl _⟩, trivial, _, rfl, ?_⟩
  have e := wE (a := x.1) (b := x.2.1) (by rw [la, lb]) ba bb
  show (kC (cP (.int .u8) x.1 0 32) (cP (.int .u8) x.2.1 0 32), PUnit.unit) = (jc x.1 x.2.1, ())
  rw [hc x.1 la, hc x.2.1 lb, e]
  rfl
theorem rc {a b : List Int} : jc a b < 0 ↔ vB a < vB b := by
 unfold jc fo; split
 ·exact ⟨fun _ => by omega, fun _ => by omega⟩
 ·split <;> exact ⟨fun _ => by omega, fun _ => by omega⟩
end Go.Proofs.Ytiaplhcifflibaa
namespace Go.Proofs.Ytiaplhcifflibaa
open Go Go.RowKit
end Go.Proofs.Ytiaplhcifflibaa
namespace Go.Proofs.Ytiaplhcifflibaa
open Go Go.RowKit
theorem Ae {x y W : Int} (hx : 0 ≤ x ∧ x < W) (hy : 0 ≤ y ∧ y < W) : (y - x) % W = if x ≤ y then y - x else y - x + W := by
 split
 ·exact Int.emod_eq_of_lt (by omega) (by omega)
 ·rw [← Int.add_emod_right]
  exact Int.emod_eq_of_lt (by omega) (by omega)
theorem lI {a : List Int} (ha : a.length = 32 ∧ byt a) : 0 ≤ vB a ∧ vB a < cF := by
 have := iL ha.2; rw [ha.1] at this; exact this
theorem AS {a b : List Int} (ha : a.length = 32 ∧ byt a) (hb : b.length = 32 ∧ byt b) : vB (aO a b) = if vB a ≤ vB b then vB b - vB a else vB b - vB a + cF := by
 have ra := lI ha
 have rb := lI hb
 rw [← Ae ra rb]
 exact (qb 32 (Int.emod_nonneg _ (by decide)) (Int.emod_lt_of_pos _ (by decide))).2
end Go.Proofs.Ytiaplhcifflibaa
namespace Go.Proofs.Ytiaplhcifflibaa
open Go Go.RowKit
noncomputable abbrev mH : Fx := { fn := jL, ann := { } }
noncomputable abbrev nE : bv := { D := { T := cj, F := [(jb, mh), (fT, iw)], R := [], ovl := [] }, inl := [] }
noncomputable abbrev tw : c7 := .data mv
theorem tA (h_ident_Far : aP prog [] jb mh) (h_ident_Compare : aP prog [] fT iw) : XOk prog nE := xok (a7 (a7 (bI bK bh) h_ident_Compare) h_ident_Far) (by kernel_rfl) ci cJ cK
noncomputable def nF (a : den ab) (b : den ab) (id : den (Ty.ref tId)) : ae := ae.req True (ae.req True (ae.req True (ae.ret (K.val (Ty.pair af Ty.unit) (jc (aO id (Prod.fst (Prod.snd a))) (aO id (Prod.fst (Prod.snd b))), PUnit.unit)))))
theorem qp (a : den ab) (b : den ab) (id : den (Ty.ref tId)) : ax nE tw 5000 [] mH (aG jL) (Env.of (a8 mE (a, b, id, ()) 0) []) = nF a b id := by kernel_rfl
noncomputable abbrev lC : Fx := { fn := iT, ann := { } }
noncomputable abbrev mO : bv := { D := { T := cj, F := [], R := [], ovl := [] }, inl := [] }
noncomputable abbrev rT : c7 := .data ll
theorem sf : XOk prog mO := xok ((bI bK bh)) (by kernel_rfl) ci cJ cK
noncomputable def mC (x : den ab) (m : den (Ty.ref ab)) : ae := ae.ret (K.val (Ty.pair Ty.bool Ty.unit) (bif decide (Prod.fst x = Prod.fst m) then true else eqb tId (Prod.fst (Prod.snd x)) (Prod.fst (Prod.snd m)), PUnit.unit))
theorem px (x : den ab) (m : den (Ty.ref ab)) : ax mO rT 5000 [] lC (aG iT) (Env.of (a8 lP (x, m, ()) 0) []) = mC x m := by kernel_rfl
noncomputable abbrev k7 : Fx := { fn := ip, ann := { } }
noncomputable abbrev lO : bv := { D := { T := cj, F := [], R := [], ovl := [] }, inl := [] }
noncomputable abbrev rE : c7 := .data kN
theorem ru : XOk prog lO := xok ((bI bK bh)) (by kernel_rfl) ci cJ cK
noncomputable def lN (m : den ab) (no : den (Ty.ref af)) : ae := ae.ret (K.val (Ty.pair Ty.bool Ty.unit) (decide (Prod.fst m = no), PUnit.unit))
theorem ox (m : den ab) (no : den (Ty.ref af)) : ax lO rE 5000 [] k7 (aG ip) (Env.of (a8 kW (m, no, ()) 0) []) = lN m no := by kernel_rfl
noncomputable abbrev bg : Fx := { fn := aW, ann := { loops := [(2, { keep := [0, 1, 7, 8] })] } }
noncomputable abbrev cB : bv := { D := { T := cj, F := [], R := [], ovl := [] }, inl := [] }
noncomputable abbrev fQ : c7 := .data du
theorem dz : XOk prog cB := xok ((bI bK bh)) (by kernel_rfl) ci cJ cK
noncomputable def fZ (s : den (Ty.slc ab)) (f : den (Ty.fn (Ty.pair ab Ty.unit) (Ty.pair Ty.bool Ty.unit))) : ae := ae.loop [] bg (lp aW 2) [(0, K.val (Ty.slc ab) s), (1, K.val (Ty.fn (Ty.pair ab Ty.unit) (Ty.pair Ty.bool Ty.unit)) f), (7, K.val af (lnx ab s)), (8, K.val af 0)] []
theorem iY (s : den (Ty.slc ab)) (f : den (Ty.fn (Ty.pair ab Ty.unit) (Ty.pair Ty.bool Ty.unit))) : ax cB fQ 5000 [] bg (aG aW) (Env.of (a8 fD (s, f, ()) 0) []) = fZ s f := by kernel_rfl
noncomputable def fd (v0 : den (Ty.slc ab)) (v1 : den (Ty.fn (Ty.pair ab Ty.unit) (Ty.pair Ty.bool Ty.unit))) (v7 : den af) (v8 : den af) : Env := Env.of [(0, K.val (Ty.slc ab) v0), (1, K.val (Ty.fn (Ty.pair ab Ty.unit) (Ty.pair Ty.bool Ty.unit)) v1), (7, K.val af v7), (8, K.val af v8)] []
noncomputable def iR (v0 : den (Ty.slc ab)) (v1 : den (Ty.fn (Ty.pair ab Ty.unit) (Ty.pair Ty.bool Ty.unit))) (v7 : den af) (v8 : den af) : ae := ae.ite (decide (v8 < v7)) (ae.req (inB v8 (lnx ab v0)) (ae.req (ni (Ty.pair ab Ty.unit) (Ty.pair Ty.bool Ty.unit) v1) (ae.ite (Prod.fst (qN (Ty.pair ab Ty.unit) (Ty.pair Ty.bool Ty.unit) v1 (el ab v0 v8, PUnit.unit))) (ae.ret (K.val (Ty.pair af Ty.unit) (v8, PUnit.unit))) (ae.loop [] bg (lp aW 2) [(0, K.val (Ty.slc ab) v0), (1, K.val (Ty.fn (Ty.pair ab Ty.unit) (Ty.pair Ty.bool Ty.unit)) v1), (7, K.val af v7), (8, K.val af (IntKind.wrap IntKind.i64 (v8 + 1)))] [])))) (ae.ret (K.val (Ty.pair af Ty.unit) (-1, PUnit.unit)))
theorem dT (v0 : den (Ty.slc ab)) (v1 : den (Ty.fn (Ty.pair ab Ty.unit) (Ty.pair Ty.bool Ty.unit))) (v7 : den af) (v8 : den af) : ax cB fQ 5000 [] bg (lp aW 2) (fd v0 v1 v7 v8) = iR v0 v1 v7 v8 := by kernel_rfl
noncomputable abbrev aY : Fx := { fn := aU, ann := { loops := [(5, { keep := [0, 1, 4, 5, 6] })] } }
noncomputable abbrev cS : bv := { D := { T := cj, F := [], R := [], ovl := [] }, inl := [] }
noncomputable abbrev gG : c7 := .data dN
theorem dU : XOk prog cS := xok ((bI bK bh)) (by kernel_rfl) ci cJ cK
noncomputable def gJ (x : den (Ty.slc ab)) (cmp : den (Ty.fn (Ty.pair ab (Ty.pair ab Ty.unit)) (Ty.pair af Ty.unit))) : ae := ae.ite (decide (lnx ab x < 1)) (ae.bad (100000 + 1000 * 0 + 0)) (ae.req (inB 0 (lnx ab x)) (ae.loop [] aY (lp aU 5) [(0, K.val (Ty.slc ab) x), (1, K.val (Ty.fn (Ty.pair ab (Ty.pair ab Ty.unit)) (Ty.pair af Ty.unit)) cmp), (4, K.ptr 0 ab []), (5, K.ptr (0 + 1) ab []), (6, K.val af 1)] [(0, Bx.cell ab (zero ab)), (0 + 1, Bx.cell ab (el ab x 0))]))
theorem jt (x : den (Ty.slc ab)) (cmp : den (Ty.fn (Ty.pair ab (Ty.pair ab Ty.unit)) (Ty.pair af Ty.unit))) : ax cS gG 5000 [] aY (aG aU) (Env.of (a8 gc (x, cmp, ()) 0) []) = gJ x cmp := by kernel_rfl
noncomputable def fV (v0 : den (Ty.slc ab)) (v1 : den (Ty.fn (Ty.pair ab (Ty.pair ab Ty.unit)) (Ty.pair af Ty.unit))) (v6 : den af) (b0 : den ab) (b1 : den ab) : Env := Env.of [(0, K.val (Ty.slc ab) v0), (1, K.val (Ty.fn (Ty.pair ab (Ty.pair ab Ty.unit)) (Ty.pair af Ty.unit)) v1), (4, K.ptr 0 ab []), (5, K.ptr (0 + 1) ab []), (6, K.val af v6)] [(0, Bx.cell ab b0), (1, Bx.cell ab b1)]
noncomputable def jF (v0 : den (Ty.slc ab)) (v1 : den (Ty.fn (Ty.pair ab (Ty.pair ab Ty.unit)) (Ty.pair af Ty.unit))) (v6 : den af) (b0 : den ab) (b1 : den ab) : ae := ae.ite (decide (v6 < lnx ab v0)) (ae.req (inB v6 (lnx ab v0)) (ae.req (ni (Ty.pair ab (Ty.pair ab Ty.unit)) (Ty.pair af Ty.unit) v1) (ae.ite (decide (Prod.fst (qN (Ty.pair ab (Ty.pair ab Ty.unit)) (Ty.pair af Ty.unit) v1 (el ab v0 v6, b1, PUnit.unit)) < 0)) (ae.req (inB v6 (lnx ab v0)) (ae.loop [] aY (lp aU 5) [(0, K.val (Ty.slc ab) v0), (1, K.val (Ty.fn (Ty.pair ab (Ty.pair ab Ty.unit)) (Ty.pair af Ty.unit)) v1), (4, K.ptr 0 ab []), (5, K.ptr (0 + 1) ab []), (6, K.val af (IntKind.wrap IntKind.i64 (v6 + 1)))] [(0, Bx.cell ab b0), (0 + 1, Bx.cell ab (el ab v0 v6))])) (ae.loop [] aY (lp aU 5) [(0, K.val (Ty.slc ab) v0), (1, K.val (Ty.fn (Ty.pair ab (Ty.pair ab Ty.unit)) (Ty.pair af Ty.unit)) v1), (4, K.ptr 0 ab []), (5, K.ptr (0 + 1) ab []), (6, K.val af (IntKind.wrap IntKind.i64 (v6 + 1)))] [(0, Bx.cell ab b0), (0 + 1, Bx.cell ab b1)])))) (ae.ret (K.val (Ty.pair ab Ty.unit) (b1, PUnit.unit)))
theorem eI (v0 : den (Ty.slc ab)) (v1 : den (Ty.fn (Ty.pair ab (Ty.pair ab Ty.unit)) (Ty.pair af Ty.unit))) (v6 : den af) (b0 : den ab) (b1 : den ab) : ax cS gG 5000 [] aY (lp aU 5) (fV v0 v1 v6 b0 b1) = jF v0 v1 v6 b0 b1 := by kernel_rfl
noncomputable abbrev qC : Fx := { fn := nY, ann := { } }
noncomputable abbrev sU : bv := { D := { T := cj, F := [], R := [], ovl := [] }, inl := [] }
noncomputable abbrev yt : c7 := .data qL
theorem x9 : XOk prog sU := xok ((bI bK bh)) (by kernel_rfl) ci cJ cK
noncomputable def s6 (l : den (Ty.slc ab)) : ae := ae.req (bu 0 (mg (lnx ab l) 18) (lnx ab l)) (ae.ret (K.val (Ty.pair (Ty.slc ab) Ty.unit) (cP ab l 0 (mg (lnx ab l) 18), PUnit.unit)))
theorem tZ (l : den (Ty.slc ab)) : ax sU yt 5000 [] qC (aG nY) (Env.of (a8 qJ (l, ()) 0) []) = s6 l := by kernel_rfl
end Go.Proofs.Ytiaplhcifflibaa
namespace Go.Proofs.Ytiaplhcifflibaa
open Go Go.RowKit
abbrev Mem := den ab
abbrev jJ (a : List Int) : Prop := a.length = 32 ∧ byt a
theorem wx {x : den tId} (h : okT tId x) : jJ x := oZ h
def tC (a b : List Int) : List Int := toB 32 ((vB a + vB b) % cF)
def pw0 : List Int := List.replicate 31 0 ++ [1]
theorem AF : vB pw0 = 1 := by kernel_rfl
def eT (x m : Mem) : Bool := bif decide (x.1 = m.1) then true else eqb tId x.2.1 m.2.1
noncomputable abbrev gt : bU := ⟨lP, ll, fun x => (eT x.1 x.2.1, ()), fun _ => True, true⟩
theorem sD : aP prog [] gr gt :=
 eO (S := gt) sf (fx := lC) rL (by kernel_rfl) (fun _ _ => trivial) (T := fun x => mC x.1 x.2.1) (fun x => px x.1 x.2.1) fun O w0 x _ _ => ⟨_, rfl, rfl⟩
noncomputable abbrev fP : bU := ⟨kW, kN, fun x => (decide (x.1.1 = x.2.1), ()), fun _ => True, true⟩
theorem qX : aP prog [] fW fP :=
 eO (S := fP) ru (fx := k7) qt (by kernel_rfl) (fun _ _ => trivial) (T := fun x => lN x.1 x.2.1) (fun x => ox x.1 x.2.1) fun O w0 x _ _ => ⟨_, rfl, rfl⟩
noncomputable abbrev gY : bU := ⟨mE, mv, fun x => (jc (aO x.2.2.1 x.1.2.1) (aO x.2.2.1 x.2.1.2.1), ()), fun _ => True, true⟩
theorem tp : aP prog [] gS gY :=
 eO (S := gY) (tA vP rh) (fx := mH) rV (by kernel_rfl) (fun _ _ => trivial) (T := fun x => nF x.1 x.2.1 x.2.2.1) (fun x => qp x.1 x.2.1 x.2.2.1) fun O w0 x _ _ => ⟨trivial, trivial, trivial, _, rfl, rfl⟩
def prM (f : den (.fn (.pair ab .unit) (.pair .bool .unit))) (m : Mem) : Bool := (qN (.pair ab .unit) (.pair .bool .unit) f (m, ())).1
def ixP (p : Mem → Bool) : List Mem → Int → Int
 | [], _ => -1
 | x :: l, i => bif p x then i else ixP p l (i + 1)
theorem lL (p : Mem → Bool) : ∀ (l : List Mem) (i : Int), 0 ≤ i → (l.any p = true → i ≤ ixP p l i ∧ ixP p l i < i + l.length) ∧ (l.any p = false → ixP p l i = -1)
 | [], i, _ => ⟨fun h => (by cases h), fun _ => rfl⟩
 | x :: l, i, hi => by
  obtain ⟨h1, h2⟩ := lL p l (i + 1) (by omega)
  rw [List.any_cons, List.length_cons]
  show (_ → _ ≤ (bif p x then i else ixP p l (i + 1)) ∧ (bif p x then i else ixP p l (i + 1)) < _) ∧ (_ → (bif p x then i else ixP p l (i + 1)) = -1)
  cases p x with
  | true => exact ⟨fun _ => ⟨Int.le_refl _, by show i < _; omega⟩, fun h => (by cases h)⟩
  | false =>
   refine ⟨fun h => ?_, fun h => h2 h⟩
   have := h1 h
   exact ⟨by show i ≤ ixP p l (i + 1); omega, by show ixP p l (i + 1) < _; omega⟩
theorem Ad (p : Mem → Bool) (l : List Mem) : decide (0 ≤ ixP p l 0) = l.any p := by
 obtain ⟨h1, h2⟩ := lL p l 0 (Int.le_refl _)
 cases h : l.any p with
 | true => exact decide_eq_true (h1 h).1
 | false => rw [h2 h]; rfl
theorem xW (p : Mem → Bool) : ∀ (l : List Mem) (i : Int), l.any p = true → ∃ k : Nat, ∃ h : k < l.length, ixP p l i = i + (k : Int) ∧ p l[k] = true
 | [], _, h => by cases h
 | x :: l, i, h => by
  show ∃ k : Nat, ∃ h : k < l.length + 1, (bif p x then i else ixP p l (i + 1)) = i + (k : Int) ∧ p (x :: l)[k] = true
  cases hx : p x with
  | true => exact ⟨0, by omega, by simp, hx⟩
  | false =>
   rw [List.any_cons, hx, Bool.false_or] at h
   obtain ⟨k, hk, h1, h2⟩ := xW p l (i + 1) h
   exact ⟨k + 1, by omega, by show ixP p l (i + 1) = _; rw [h1]; omega, h2⟩
noncomputable abbrev bj : bU := ⟨fD, du, fun x => (ixP (prM x.2.1) x.1 0, ()), fun x => ni (.pair ab .unit) (.pair .bool .unit) x.2.1, false⟩
abbrev GIx (O : Nat → Prop) (w0 : World) (y : Int) := bP prog cB (Cx.base O w0) (cV prog O w0 du fun z => z = (y, ()))
def uq (O : Nat → Prop) (w0 : World) (xs : List Mem) (f : den (.fn (.pair ab .unit) (.pair .bool .unit))) (hf : ni (.pair ab .unit) (.pair .bool .unit) f) (hm : xs.length ≤ maxLen) (y : Int) (hy : y = ixP (prM f) xs 0) :=
 PLift.up <| hP (σ := Unit) xs.length (fun i _ => ixP (prM f) (xs.drop i) (i : Nat) = y)
  (fun i _ => GIx O w0 y [] bg (lp aW 2) (fd xs f (lnx ab xs) (i : Nat)))
  (fun i _ hi hs ih => cE dz (dT xs f _ _) (by
   rw [List.drop_eq_getElem_cons hi] at hs
   have hs : (bif prM f xs[i] then ((i : Nat) : Int) else ixP (prM f) (xs.drop (i + 1)) (((i : Nat) : Int) + 1)) = y := hs
   refine ⟨fun _ => ⟨cT hi, hf, ?_⟩, fun hc => absurd hi (by rw [mD] at hc; exact of_decide_eq_false hc)⟩
   rw [ed hi, kJ hi hm]
   refine ⟨fun hc => ⟨_, rfl, ?_⟩, fun hc => ih () ?_⟩
   ·have hc : prM f xs[i] = true := hc
    rw [hc] at hs
    rw [← hs]
    rfl
   ·have hc : prM f xs[i] = false := hc
    rw [hc] at hs
    exact hs))
  (fun _ hs => cE dz (dT xs f _ _) (by
   refine ⟨fun hc => absurd (of_decide_eq_true hc) (Int.lt_irrefl _), fun _ => ⟨_, rfl, ?_⟩⟩
   rw [List.drop_length] at hs
   rw [← hs]
   rfl))
theorem f7 : aP prog [] bl bj :=
 eO (S := bj) dz (fx := bg) jy (by kernel_rfl) (fun h => by cases h) (T := fun x => fZ x.1 x.2.1) (fun x => iY x.1 x.2.1) fun O w0 x hk hp =>
  (uq O w0 x.1 x.2.1 hp hk.1.1 _ rfl).down 0 () (Nat.zero_le _) rfl
def mZ (k : Mem → Mem → Int) : Mem → List Mem → Mem
 | b, [] => b
 | b, x :: l => mZ k (if k x b < 0 then x else b) l
def cmM (f : den (.fn (.pair ab (.pair ab .unit)) (.pair af .unit))) (x y : Mem) : Int := (qN (.pair ab (.pair ab .unit)) (.pair af .unit) f (x, y, ())).1
def vj (k : Mem → Mem → Int) : List Mem → Mem
 | [] => zero ab
 | b :: l => mZ k b l
noncomputable abbrev cR : bU := ⟨gc, dN, fun x => (vj (cmM x.2.1) x.1, ()), fun x => ni (.pair ab (.pair ab .unit)) (.pair af .unit) x.2.1 ∧ 0 < List.length x.1, false⟩
abbrev GMi (O : Nat → Prop) (w0 : World) (y : Mem) := bP prog cS (Cx.base O w0) (cV prog O w0 dN fun z => z = (y, ()))
def xx (O : Nat → Prop) (w0 : World) (xs : List Mem) (f : den (.fn (.pair ab (.pair ab .unit)) (.pair af .unit))) (hf : ni (.pair ab (.pair ab .unit)) (.pair af .unit) f) (hm : xs.length ≤ maxLen) (z y : Mem) :=
 PLift.up <| hP (σ := Mem) xs.length (fun i b => mZ (cmM f) b (xs.drop i) = y)
  (fun i b => GMi O w0 y [] aY (lp aU 5) (fV xs f (i : Nat) z b))
  (fun i b hi hs ih => cE dU (eI xs f _ z b) (by
   rw [List.drop_eq_getElem_cons hi] at hs
   have hs : mZ (cmM f) (if cmM f xs[i] b < 0 then xs[i] else b) (xs.drop (i + 1)) = y := hs
   refine ⟨fun _ => ⟨cT hi, hf, ?_⟩, fun hc => absurd hi (by rw [mD] at hc; exact of_decide_eq_false hc)⟩
   rw [ed hi, kJ hi hm]
   refine ⟨fun hc => ⟨cT hi, ih _ ?_⟩, fun hc => ih _ ?_⟩
   ·have hc : cmM f xs[i] b < 0 := of_decide_eq_true hc
    rw [if_pos hc] at hs
    exact hs
   ·have hc : ¬ cmM f xs[i] b < 0 := of_decide_eq_false hc
    rw [if_neg hc] at hs
    exact hs))
  (fun b hs => cE dU (eI xs f _ z b) (by
   refine ⟨fun hc => absurd (of_decide_eq_true hc) (Int.lt_irrefl _), fun _ => ⟨_, rfl, ?_⟩⟩
   rw [List.drop_length] at hs
   rw [← hs]
   rfl))
theorem lj : aP prog [] cQ cR :=
 eO (S := cR) dU (fx := aY) kg (by kernel_rfl) (fun h => by cases h) (T := fun x => gJ x.1 x.2.1) (fun x => jt x.1 x.2.1) fun O w0 x hk hp => by
  obtain ⟨xs, f, ⟨⟩⟩ := x
  have hm : List.length xs ≤ maxLen := hk.1.1
  have h0 : 0 < List.length xs := hp.2
  refine ⟨fun hc => ?_, fun _ => ⟨cT (i := 0) h0, ?_⟩⟩
  ·exfalso
   have hc : ((xs.length : Nat) : Int) < 1 := of_decide_eq_true hc
   omega
  ·rw [show (0 : Int) = ((0 : Nat) : Int) from rfl, ed h0]
   refine (xx O w0 xs f hp.1 hm (zero ab) (vj (cmM f) xs)).down 1 _ h0 ?_
   cases xs with
   | nil => cases h0
   | cons b l => rfl
theorem mw (x y : Mem) : eqb ab x y = decide (x = y) := by
 have := mA (t := ab) rfl x y
 cases h : eqb ab x y
 ·have : ¬ x = y := fun e => by rw [this.2 e] at h; cases h
  simp [this]
 ·simp [this.1 h]
noncomputable abbrev lm : bU := ⟨qJ, qL, fun x => (List.take 18 x.1, ()), fun _ => True, true⟩
theorem xG : aP prog [] lA lm :=
 eO (S := lm) x9 (fx := qC) w3 (by kernel_rfl) (fun _ _ => trivial) (T := fun x => s6 x.1) (fun x => tZ x.1) fun O w0 x _ _ => by
  obtain ⟨l, ⟨⟩⟩ := x
  have hc := A3 (e := ab) l 18
  refine ⟨hc.2, _, rfl, ?_⟩
  show (cP ab l 0 (mg (lnx ab l) ((18 : Nat) : Int)), ()) = (List.take 18 l, ())
  rw [hc.1]
end Go.Proofs.Ytiaplhcifflibaa
namespace Go.Proofs.Ytiaplhcifflibaa
def rky (W a p : Int) : Int := if a ≤ p then p - a else p - a + W
def rup (W a : Int) : Int := if a + 1 = W then 0 else a + 1
theorem qo {W a p : Int} (ha : 0 ≤ a ∧ a < W) (hp : 0 ≤ p ∧ p < W) : 0 ≤ rky W a p ∧ rky W a p < W := by unfold rky; split <;> omega
theorem uM {W a p q : Int} (_ : 0 ≤ a ∧ a < W) (hp : 0 ≤ p ∧ p < W) (hq : 0 ≤ q ∧ q < W) (h : rky W a p = rky W a q) : p = q := by unfold rky at h; split at h <;> split at h <;> omega
theorem zV {W a : Int} : rky W a a = 0 := by unfold rky; rw [if_pos (Int.le_refl _)]; omega
theorem uK {W a m p : Int} (ha : 0 ≤ a ∧ a < W) (hm : 0 ≤ m ∧ m < W) (hp : 0 ≤ p ∧ p < W) : rky W m p = if rky W a m ≤ rky W a p then rky W a p - rky W a m else rky W a p - rky W a m + W := by
 unfold rky
 split <;> split <;> split <;> split <;> omega
theorem xr {W m p : Int} (hm : 0 ≤ m ∧ m < W) (hp : 0 ≤ p ∧ p < W) : rky W (rup W m) p = if p = m then W - 1 else rky W m p - 1 := by
 unfold rky rup
 split <;> split <;> split <;> (try split) <;> omega
theorem sZ {W m : Int} (hm : 0 ≤ m ∧ m < W) : 0 ≤ rup W m ∧ rup W m < W := by unfold rup; split <;> omega
section
variable {M : Type} {pos : M → Int} {W : Int}
structure uu (pos : M → Int) (W : Int) (l : List M) : Prop where
 in' : ∀ m ∈ l, 0 ≤ pos m ∧ pos m < W
 inj : ∀ x ∈ l, ∀ y ∈ l, pos x = pos y → x = y
def dV (pos : M → Int) (W a : Int) (l : List M) (m : M) : Prop := m ∈ l ∧ ∀ x ∈ l, rky W a (pos m) ≤ rky W a (pos x)
theorem dV.uniq {l : List M} (h : uu pos W l) {a : Int} (ha : 0 ≤ a ∧ a < W) {m n : M} (hm : dV pos W a l m) (hn : dV pos W a l n) : m = n :=
 h.inj m hm.1 n hn.1 (uM ha (h.in' m hm.1) (h.in' n hn.1) (Int.le_antisymm (hm.2 n hn.1) (hn.2 m hm.1)))
theorem dV.mem {l : List M} {a : Int} {m : M} (h : dV pos W a l m) : m ∈ l := h.1
theorem dV.sub {l l' : List M} {a : Int} {m : M} (h : dV pos W a l m) (hs : ∀ x ∈ l', x ∈ l) (hm : m ∈ l') : dV pos W a l' m := ⟨hm, fun x hx => h.2 x (hs x hx)⟩
def gx (k : M → Int) : M → List M → M
 | b, [] => b
 | b, x :: l => gx k (if k x < k b then x else b) l
theorem xB (k : M → Int) (b x : M) (l : List M) : gx k b (x :: l) = gx k (if k x < k b then x else b) l := rfl
theorem np (k : M → Int) : ∀ (l : List M) (b : M), gx k b l ∈ b :: l ∧ k (gx k b l) ≤ k b ∧ ∀ x ∈ l, k (gx k b l) ≤ k x
 | [], b => ⟨List.mem_cons_self, Int.le_refl _, fun x hx => by cases hx⟩
 | x :: l, b => by
  rw [xB]
  by_cases h : k x < k b
  ·rw [if_pos h]
   obtain ⟨h1, h2, h3⟩ := np k l x
   refine ⟨List.mem_cons_of_mem _ h1, by omega, fun y hy => ?_⟩
   rcases List.mem_cons.1 hy with rfl | hy
   ·exact h2
   ·exact h3 y hy
  ·rw [if_neg h]
   obtain ⟨h1, h2, h3⟩ := np k l b
   refine ⟨?_, h2, fun y hy => ?_⟩
   ·rcases List.mem_cons.1 h1 with e | h'
    ·rw [e]; exact List.mem_cons_self
    ·exact List.mem_cons_of_mem _ (List.mem_cons_of_mem _ h')
   ·rcases List.mem_cons.1 hy with rfl | hy
    ·omega
    ·exact h3 y hy
structure iB (pos : M → Int) (W a : Int) (l s : List M) : Prop where
 mem : ∀ x, x ∈ s ↔ x ∈ l
 lt : s.Pairwise fun x y => rky W a (pos x) < rky W a (pos y)
theorem iB.get {a : Int} {l s : List M} (h : iB pos W a l s) {i j : Nat} (hi : i < j) (hj : j < s.length) : rky W a (pos s[i]) < rky W a (pos s[j]) := List.pairwise_iff_getElem.1 h.lt i j (by omega) hj hi
theorem iB.nodup {a : Int} {l s : List M} (h : iB pos W a l s) {i j : Nat} (hi : i < s.length) (hj : j < s.length) (e : s[i] = s[j]) : i = j := by
 rcases Nat.lt_trichotomy i j with h1 | h1 | h1
 ·have := h.get h1 hj; rw [e] at this; omega
 ·exact h1
 ·have := h.get h1 hi; rw [e] at this; omega
theorem iB.first {a : Int} {l s : List M} (h : iB pos W a l s) (h0 : 0 < s.length) : dV pos W a l s[0] :=
 ⟨(h.mem _).1 (List.getElem_mem h0), fun x hx => by
  obtain ⟨j, hj, rfl⟩ := List.getElem_of_mem ((h.mem x).2 hx)
  rcases Nat.eq_zero_or_pos j with e | e
  ·subst e; exact Int.le_refl _
  ·exact Int.le_of_lt (h.get e hj)⟩
theorem iB.next {a : Int} {l s : List M} (hl : uu pos W l) (ha : 0 ≤ a ∧ a < W) (h : iB pos W a l s) {i : Nat} (hi : i < s.length) :
    dV pos W (rup W (pos s[i])) l (s[(i + 1) % s.length]'(Nat.mod_lt _ (by omega))) := by
  have hr : ∀ j (hj : j < s.length), 0 ≤ pos s[j] ∧ pos s[j] < W := fun j hj => hl.in' _ ((h.mem _).1 (List.getElem_mem hj))
  have hn : (i + 1) % s.length < s.length := Nat.mod_lt _ (by omega)
  refine ⟨(h.mem _).1 (List.getElem_mem hn), fun x hx => ?_⟩
  obtain ⟨j, hj, rfl⟩ := List.getElem_of_mem ((h.mem x).2 hx)
  have key : ∀ k (hk : k < s.length), rky W (rup W (pos s[i])) (pos s[k]) = if k = i then W - 1 else (if i < k then rky W a (pos s[k]) - rky W a (pos s[i]) - 1 else rky W a (pos s[k]) - rky W a (pos s[i]) + W - 1) := fun k hk => by
    rw [xr (hr i hi) (hr k hk)]
    by_cases e : k = i
    · subst e; rw [if_pos rfl, if_pos rfl]
    · have hne : ¬ pos s[k] = pos s[i] := fun hp => e (h.nodup hk hi (hl.inj _ ((h.mem _).1 (List.getElem_mem hk)) _ ((h.mem _).1 (List.getElem_mem hi)) hp))
      rw [if_neg hne, if_neg e, uK ha (hr i hi) (hr k hk)]
      by_cases h1 : i < k
      · have := h.get h1 hk
        rw [if_pos h1, if_pos (by omega)]
      · have := h.get (show k < i by omega) hi
        rw [if_neg h1, if_neg (by omega)]
  rw [key _ hn, key j hj]
  have rg : ∀ k (hk : k < s.length), 0 ≤ rky W a (pos s[k]) ∧ rky W a (pos s[k]) < W := fun k hk => qo ha (hr k hk)
  have ri := rg i hi
  have rj := rg j hj
  by_cases hlast : i + 1 < s.length
  · have e : (i + 1) % s.length = i + 1 := Nat.mod_eq_of_lt hlast
    simp only [e]
    rw [if_neg (by omega), if_pos (by omega)]
    have r1 := rg (i + 1) hlast
    have g1 := h.get (show i < i + 1 by omega) hlast
    by_cases e1 : j = i
    · rw [if_pos e1]; omega
    · rw [if_neg e1]
      by_cases e2 : i < j
      · rw [if_pos e2]
        rcases Nat.lt_or_ge (i + 1) j with e3 | e3
        · have := h.get e3 hj; omega
        · have : j = i + 1 := by omega
          subst this; omega
      · rw [if_neg e2]; omega
  · have e : (i + 1) % s.length = 0 := by rw [show i + 1 = s.length by omega, Nat.mod_self]
    simp only [e]
    by_cases e0 : 0 = i
    · subst e0
      have : j = 0 := by omega
      subst this
      exact Int.le_refl _
    · rw [if_neg e0, if_neg (by omega)]
      have r0 := rg 0 (by omega)
      have g0 := h.get (show 0 < i by omega) hi
      by_cases e1 : j = i
      · rw [if_pos e1]; omega
      · rw [if_neg e1, if_neg (by omega)]
        rcases Nat.eq_zero_or_pos j with e2 | e2
        · subst e2; omega
        · have := h.get e2 hj; omega
theorem iB.self {l s : List M} (hl : uu pos W l) {m : M} (hm : m ∈ l) (h : iB pos W (pos m) l s) (h0 : 0 < s.length) : s[0] = m :=
 dV.uniq hl (hl.in' m hm) (h.first h0) ⟨hm, fun x hx => by rw [zV]; exact (qo (hl.in' m hm) (hl.in' x hx)).1⟩
theorem yv {l l' : List M} (hl : uu pos W l) {m b : M} {a : Int} (ha : 0 ≤ a ∧ a < W) (hm : dV pos W a l m) (hl' : ∀ x, x ∈ l' ↔ (x ∈ l ∧ ¬ x = m)) (hb : dV pos W a l' b) : dV pos W (rup W (pos m)) l b := by
 have hbl := (hl' b).1 hb.1
 refine ⟨hbl.1, fun x hx => ?_⟩
 have rm := hl.in' m hm.1
 rw [xr rm (hl.in' b hbl.1), xr rm (hl.in' x hx), if_neg (fun e => hbl.2 (hl.inj b hbl.1 m hm.1 e))]
 have sh : ∀ x ∈ l, rky W (pos m) (pos x) = rky W a (pos x) - rky W a (pos m) := fun x hx => by rw [uK ha rm (hl.in' x hx), if_pos (hm.2 x hx)]
 by_cases e : pos x = pos m
 ·rw [if_pos e]
  have := qo rm (hl.in' b hbl.1)
  omega
 ·rw [if_neg e, sh b hbl.1, sh x hx]
  have := hb.2 x ((hl' x).2 ⟨hx, fun h => e (by rw [h])⟩)
  omega
end
end Go.Proofs.Ytiaplhcifflibaa
namespace Go.Proofs
open Go.Shelf
def Try.sortMember_ren : Go.Shelf.Ren := ⟨fun | 6 => 36 | 15 => 48 | 14 => 47 | 28 => 58 | 29 => 59 | 20 => 50 | 21 => 51 | 22 => 52 | 23 => 53 | 24 => 54 | 25 => 55 | 26 => 56 | 27 => 57 | 46 => 61 | 47 => 62 | 48 => 63 | 49 => 64 | 50 => 65 | 57 => 66 | n => n, fun | 22 => 22 | 24 => 30 | 25 => 52 | 3 => 3 | 39 => 71 | 0 => 0 | 53 => 82 | 55 => 84 | 4 => 4 | 46 => 75 | 45 => 74 | 50 => 79 | 5 => 5 | 9 => 9 | 66 => 86 | 70 => 90 | 76 => 92 | 77 => 93 | n => n, fun | n => n⟩
theorem Try.sortMember : Go.Proofs.SlLaysF0.n6 Try.prog Try.sortMember_ren := {
 mixed := by kernel_rfl
 f6 := ⟨Try.f36.name, by decide, Try.func36.trans (congrArg some (by kernel_rfl))⟩
 f14 := ⟨Try.f47.name, by decide, Try.func47.trans (congrArg some (by kernel_rfl))⟩
 f15 := Try.func48.trans (congrArg some (by kernel_rfl))
 f20 := ⟨Try.f50.name, by decide, Try.func50.trans (congrArg some (by kernel_rfl))⟩
 f21 := ⟨Try.f51.name, by decide, Try.func51.trans (congrArg some (by kernel_rfl))⟩
 f22 := ⟨Try.f52.name, by decide, Try.func52.trans (congrArg some (by kernel_rfl))⟩
 f23 := ⟨Try.f53.name, by decide, Try.func53.trans (congrArg some (by kernel_rfl))⟩
 f24 := ⟨Try.f54.name, by decide, Try.func54.trans (congrArg some (by kernel_rfl))⟩
 f25 := ⟨Try.f55.name, by decide, Try.func55.trans (congrArg some (by kernel_rfl))⟩
 f26 := ⟨Try.f56.name, by decide, Try.func56.trans (congrArg some (by kernel_rfl))⟩
 f27 := ⟨Try.f57.name, by decide, Try.func57.trans (congrArg some (by kernel_rfl))⟩
 f28 := Try.func58.trans (congrArg some (by kernel_rfl))
 f29 := Try.func59.trans (congrArg some (by kernel_rfl))
 f46 := ⟨Try.f61.name, by decide, Try.func61.trans (congrArg some (by kernel_rfl))⟩
 f47 := Try.func62.trans (congrArg some (by kernel_rfl))
 f48 := Try.func63.trans (congrArg some (by kernel_rfl))
 f49 := ⟨Try.f64.name, by decide, Try.func64.trans (congrArg some (by kernel_rfl))⟩
 f50 := ⟨Try.f65.name, by decide, Try.func65.trans (congrArg some (by kernel_rfl))⟩
 f57 := ⟨Try.f66.name, by decide, Try.func66.trans (congrArg some (by kernel_rfl))⟩
 t0 := Try.underlying0
 a0 := Try.isAgg0
 z0 := Try.sizeOf0
 v0 := Try.zeroValue0
 t3 := Try.underlying3
 a3 := Try.isAgg3
 z3 := Try.sizeOf3
 v3 := Try.zeroValue3
 t4 := Try.underlying4
 a4 := Try.isAgg4
 z4 := Try.sizeOf4
 v4 := Try.zeroValue4
 t5 := Try.underlying5
 a5 := Try.isAgg5
 z5 := Try.sizeOf5
 v5 := Try.zeroValue5
 t9 := Try.underlying9
 a9 := Try.isAgg9
 z9 := Try.sizeOf9
 v9 := Try.zeroValue9
 t22 := Try.underlying22
 a22 := Try.isAgg22
 z22 := Try.sizeOf22
 v22 := Try.zeroValue22
 t25 := Try.underlying52
 a25 := Try.isAgg52
 z25 := Try.sizeOf52
 v25 := Try.zeroValue52
 t39 := Try.underlying71
 a39 := Try.isAgg71
 z39 := Try.sizeOf71
 v39 := Try.zeroValue71
 t45 := Try.underlying74
 a45 := Try.isAgg74
 z45 := Try.sizeOf74
 v45 := Try.zeroValue74
 t46 := Try.underlying75
 a46 := Try.isAgg75
 z46 := Try.sizeOf75
 v46 := Try.zeroValue75
 t50 := Try.underlying79
 a50 := Try.isAgg79
 z50 := Try.sizeOf79
 v50 := Try.zeroValue79
 t53 := Try.underlying82
 a53 := Try.isAgg82
 z53 := Try.sizeOf82
 v53 := Try.zeroValue82
 t55 := Try.underlying84
 a55 := Try.isAgg84
 z55 := Try.sizeOf84
 v55 := Try.zeroValue84
 t66 := Try.underlying86
 a66 := Try.isAgg86
 z66 := Try.sizeOf86
 v66 := Try.zeroValue86
 t70 := Try.underlying90
 a70 := Try.isAgg90
 z70 := Try.sizeOf90
 v70 := Try.zeroValue90
 t76 := Try.underlying92
 a76 := Try.isAgg92
 z76 := Try.sizeOf92
 v76 := Try.zeroValue92
 t77 := Try.underlying93
 a77 := Try.isAgg93
 z77 := Try.sizeOf93
 v77 := Try.zeroValue93 }
theorem Try.sortMember_none (p : Option Addr) (cap : Nat) (fv : Value) (w : World) :
    Calls Try.prog 36 #[.slice p 0 cap, fv] w fun e w' => e = .returned (.tuple #[]) ∧ w' = w := AnyF.slices_SortFunc_none Try.sortMember p cap fv w
end Go.Proofs
namespace Go.Proofs.Ytiaplhcifflibaa
open Go Go.RowKit
@[reducible] def dG : ef := zP ab
theorem jr : jZ prog [] cC dG :=
 yW (e := ab) rfl rfl (i7 jT (by kernel_rfl) (by kernel_rfl)) (fun p cap fv w => Try.sortMember_none p cap fv w) fun enc hk h1 cf hO g cb blk off cap d w eg hcmp hH hblk hsz hT =>
  Go.Proofs.AnyQ.slices_SortFunc_total Try.sortMember 33 (fun w => (gv bK (show List.lookup (Try.sortMember_ren.t 24) cj = some ab by kernel_rfl)).isAgg w) (fun w => (gv bK (show List.lookup (Try.sortMember_ren.t 24) cj = some ab by kernel_rfl)).sizeOf w) enc hk h1 cf hO g cb blk off cap d w eg hcmp hH hblk hsz hT
abbrev A0 : Ty := .clo dJ (.pair (.ref (.slc ab)) .unit)
abbrev gn : Ty := .pair A0 .unit
noncomputable abbrev c9 : bU := ⟨gE, gn, fun x => ((x.1, ()), ()), fun _ => True, false⟩
abbrev eV : Ty := .pair A0 (.pair (lE ab) .unit)
noncomputable abbrev co : bU := ⟨eV, dc, fun x => (c6 ab x.2.1 x.1.1, ()), fun x => eU ab x.2.1 x.1.1, false⟩
def bp (id : List Int) : den (lE ab) := some fun y => (jc (aO id y.1.2.1) (aO id y.2.1.2.1), ())
noncomputable abbrev fJ : bU := ⟨oa, oL, fun x => (bp x.1, ()), fun _ => True, true⟩
noncomputable abbrev cg : bU := ⟨eJ, eM, fun x => (x.1.any (prM x.2.1), ()), fun x => ni (.pair ab .unit) (.pair .bool .unit) x.2.1, false⟩
def m7 : List Mem → List Mem → Bool
 | _, [] => true
 | pre, m :: l => (!(pre.any fun x => eT x m)) && decide (0 ≤ m.1) && decide (m.1 < 16) && m7 (pre ++ [m]) l
def aE (l : List Mem) : Bool := m7 [] l && decide (l.length ≤ 16)
noncomputable abbrev cm : bU := ⟨nN, jz, fun x => (aE x.1, ()), fun _ => True, true⟩
def bO (l : List Mem) (id : List Int) : Mem × Int := bif !aE l then (zero ab, 1) else bif decide (lnx ab l = 0) then (zero ab, 6) else (vj (cmM (bp id)) l, 0)
noncomputable abbrev dI : bU := ⟨nK, jw, fun x => ((bO x.1 x.2.1).1, (bO x.1 x.2.1).2, ()), fun _ => True, true⟩
def gL (l : List Mem) (no : Int) : Int := ixP (fun m => decide (m.1 = no)) l 0
def aZ (l : List Mem) (no : Int) : List Mem × Int := bif !aE l then ([], 1) else bif decide (gL l no < 0) then ([], 6) else (c6 ab (bp (el ab l (gL l no)).2.1) l, 0)
noncomputable abbrev fw : bU := ⟨mT, iH, fun x => ((aZ x.1 x.2.1).1, (aZ x.1 x.2.1).2, ()), fun _ => True, true⟩
def da (all : List Mem) : Nat → List Mem
 | 0 => []
 | i + 1 => da all i ++ [el ab all (Int.tmod ((i : Int) + 1) all.length)]
def cW (l : List Mem) (no many : Int) : List Mem × Int := bif (bif decide (many < 0) then true else decide (16 < many)) then ([], 1) else bif !decide ((aZ l no).2 = 0) then ([], (aZ l no).2) else (da (aZ l no).1 many.toNat, 0)
noncomputable abbrev gd : bU := ⟨nJ, fy, fun x => ((cW x.1 x.2.1 x.2.2.1).1, (cW x.1 x.2.1 x.2.2.1).2, ()), fun _ => True, true⟩
def noM : Mem := (-1, zero (Ty.pair tId Ty.unit))
def lW (id : List Int) (b m : Mem) : Mem := bif (bif decide (b.1 < 0) then true else decide (jc (aO id m.2.1) (aO id b.2.1) < 0)) then m else b
def uw (l : List Mem) (id : List Int) : Mem := l.foldl (lW id) noM
def sn (l : List Mem) (m : Mem) : Mem := uw l (tC m.2.1 pw0)
noncomputable abbrev jd : bU := ⟨oV, oJ, fun _ => (true, ()), fun _ => True, true⟩
end Go.Proofs.Ytiaplhcifflibaa
namespace Go.Proofs.Ytiaplhcifflibaa
open Go Go.RowKit
noncomputable abbrev eK : Fx := { fn := cZ, ann := { } }
noncomputable abbrev fb : bv := { D := { T := cj, F := [(bl, bj)], R := [], ovl := [] }, inl := [] }
noncomputable abbrev iQ : c7 := .data eM
theorem iI (h_slices_IndexFunc_Member : aP prog [] bl bj) : XOk prog fb := xok (a7 (bI bK bh) h_slices_IndexFunc_Member) (by kernel_rfl) ci cJ cK
noncomputable def e9 (s : den (Ty.slc ab)) (f : den (Ty.fn (Ty.pair ab Ty.unit) (Ty.pair Ty.bool Ty.unit))) : ae := ae.req (∃ (h : den (Ty.pair ab Ty.unit) → den (Ty.pair Ty.bool Ty.unit)), f = some h) (ae.ret (K.val (Ty.pair Ty.bool Ty.unit) (decide (0 ≤ ixP (prM f) s 0), PUnit.unit)))
theorem ic (s : den (Ty.slc ab)) (f : den (Ty.fn (Ty.pair ab Ty.unit) (Ty.pair Ty.bool Ty.unit))) : ax fb iQ 5000 [] eK (aG cZ) (Env.of (a8 eJ (s, f, ()) 0) []) = e9 s f := by kernel_rfl
noncomputable abbrev gI : Fx := { fn := eE, ann := { frz := [(1, [1])] } }
noncomputable abbrev gM : bv := { D := { T := cj, F := [], R := [], ovl := [] }, inl := [] }
noncomputable abbrev md : c7 := .data gn
theorem lY : XOk prog gM := xok ((bI bK bh)) (by kernel_rfl) ci cJ cK
noncomputable def gN (s : den (Ty.slc ab)) : ae := ae.ret (K.val (Ty.pair (Ty.clo 37 (Ty.pair (Ty.ref (Ty.slc ab)) Ty.unit)) Ty.unit) ((s, PUnit.unit), PUnit.unit))
theorem jW (s : den (Ty.slc ab)) : ax gM md 5000 [] gI (aG eE) (Env.of (a8 gE (s, ()) 0) []) = gN s := by kernel_rfl
noncomputable abbrev oX : Fx := { fn := l8, ann := { frz := [(1, [1])] } }
noncomputable abbrev pS : bv := { D := { T := cj, F := [(gS, gY)], R := [], ovl := [] }, inl := [] }
noncomputable abbrev vG : c7 := .data oL
theorem vS (h_ring_from_1 : aP prog [] gS gY) : XOk prog pS := xok (a7 (bI bK bh) h_ring_from_1) (by kernel_rfl) ci cJ cK
noncomputable def pC (id : den tId) : ae := ae.req (∀ (y : den (Ty.pair ab (Ty.pair ab Ty.unit))), True) (ae.ret (K.val (Ty.pair (Ty.fn (Ty.pair ab (Ty.pair ab Ty.unit)) (Ty.pair af Ty.unit)) Ty.unit) (some fun (y : den (Ty.pair ab (Ty.pair ab Ty.unit))) ↦ (jc (aO id (Prod.fst (Prod.snd (Prod.fst y)))) (aO id (Prod.fst (Prod.snd (Prod.fst (Prod.snd y))))), PUnit.unit), PUnit.unit)))
theorem r7 (id : den tId) : ax pS vG 5000 [] oX (aG l8) (Env.of (a8 oa (id, ()) 0) []) = pC id := by kernel_rfl
noncomputable abbrev dY : Fx := { fn := dO, ann := { loops := [(2, { keep := [0, 6, 7, 8] })], frz := [(4, [4])] } }
noncomputable abbrev gb : bv := { D := { T := cj, F := [(bX, cg), (gr, gt)], R := [], ovl := [] }, inl := [] }
noncomputable abbrev om : c7 := .data jz
theorem uO (h_slices_ContainsFunc_Member : aP prog [] bX cg) (h_ring_Right_1 : aP prog [] gr gt) : XOk prog gb := xok (a7 (a7 (bI bK bh) h_ring_Right_1) h_slices_ContainsFunc_Member) (by kernel_rfl) ci cJ cK
noncomputable def oM (l : den (Ty.slc ab)) : ae := ae.loop [] dY (lp dO 2) [(0, K.val (Ty.slc ab) l), (6, K.val (Ty.slc ab) l), (7, K.val af (lnx ab l)), (8, K.val af 0)] []
theorem qY (l : den (Ty.slc ab)) : ax gb om 5000 [] dY (aG dO) (Env.of (a8 nN (l, ()) 0) []) = oM l := by kernel_rfl
noncomputable def mG (v0 : den (Ty.slc ab)) (v6 : den (Ty.slc ab)) (v7 : den af) (v8 : den af) : Env := Env.of [(0, K.val (Ty.slc ab) v0), (6, K.val (Ty.slc ab) v6), (7, K.val af v7), (8, K.val af v8)] []
noncomputable def qQ (v0 : den (Ty.slc ab)) (v6 : den (Ty.slc ab)) (v7 : den af) (v8 : den af) : ae := ae.ite (decide (v8 < v7)) (ae.req (inB v8 (lnx ab v6)) (ae.req (bu 0 v8 (lnx ab v0)) (ae.req (∀ (y : den (Ty.pair ab Ty.unit)), True) (ae.req (∃ (h : den (Ty.pair ab Ty.unit) → den (Ty.pair Ty.bool Ty.unit)), (some fun (y : den (Ty.pair ab Ty.unit)) ↦ (eT (Prod.fst y) (el ab v6 v8), PUnit.unit)) = some h) (ae.ite (bif bif List.any (cP ab v0 0 v8) (prM (some fun (y : den (Ty.pair ab Ty.unit)) ↦ (eT (Prod.fst y) (el ab v6 v8), PUnit.unit))) then true else decide (Prod.fst (el ab v6 v8) < 0) then true else decide (16 ≤ Prod.fst (el ab v6 v8))) (ae.ret (K.val (Ty.pair Ty.bool Ty.unit) (false, PUnit.unit))) (ae.loop [] dY (lp dO 2) [(0, K.val (Ty.slc ab) v0), (6, K.val (Ty.slc ab) v6), (7, K.val af v7), (8, K.val af (IntKind.wrap IntKind.i64 (v8 + 1)))] [])))))) (ae.ret (K.val (Ty.pair Ty.bool Ty.unit) (decide (lnx ab v0 ≤ 16), PUnit.unit)))
theorem jm (v0 : den (Ty.slc ab)) (v6 : den (Ty.slc ab)) (v7 : den af) (v8 : den af) : ax gb om 5000 [] dY (lp dO 2) (mG v0 v6 v7 v8) = qQ v0 v6 v7 v8 := by kernel_rfl
noncomputable abbrev nM : Fx := { fn := kO, ann := { } }
noncomputable abbrev og : bv := { D := { T := cj, F := [(cn, cm), (fG, fJ), (cQ, cR)], R := [], ovl := [] }, inl := [] }
noncomputable abbrev uc : c7 := .data jw
theorem tX (h_ring_Right : aP prog [] cn cm) (h_ring_from : aP prog [] fG fJ) (h_slices_MinFunc_Member : aP prog [] cQ cR) : XOk prog og := xok (a7 (a7 (a7 (bI bK bh) h_slices_MinFunc_Member) h_ring_from) h_ring_Right) (by kernel_rfl) ci cJ cK
noncomputable def o0 (l : den (Ty.slc ab)) (id : den tId) : ae := ae.req True (ae.ite (!aE l) (ae.ret (K.val (Ty.pair ab (Ty.pair af Ty.unit)) (zero (Ty.pair af (Ty.pair tId Ty.unit)), 1, PUnit.unit))) (ae.ite (decide (lnx ab l = 0)) (ae.ret (K.val (Ty.pair ab (Ty.pair af Ty.unit)) (zero (Ty.pair af (Ty.pair tId Ty.unit)), 6, PUnit.unit))) (ae.req True (ae.req ((∃ (h : den (Ty.pair ab (Ty.pair ab Ty.unit)) → den (Ty.pair af Ty.unit)), bp id = some h) ∧ 0 < List.length l) (ae.ret (K.val (Ty.pair ab (Ty.pair af Ty.unit)) (vj (cmM (bp id)) l, 0, PUnit.unit)))))))
theorem rK (l : den (Ty.slc ab)) (id : den tId) : ax og uc 5000 [] nM (aG kO) (Env.of (a8 nK (l, id, ()) 0) []) = o0 l id := by kernel_rfl
noncomputable abbrev mr : Fx := { fn := jE, ann := { frz := [(3, [3])] } }
noncomputable abbrev nL : bv := { D := { T := cj, F := [(cn, cm), (bl, bj), (fW, fP), (c4, c9), (fG, fJ), (cp, co)], R := [], ovl := [] }, inl := [] }
noncomputable abbrev tt : c7 := .data iH
theorem tl (h_ring_Right : aP prog [] cn cm) (h_slices_IndexFunc_Member : aP prog [] bl bj) (h_ring_turned_1 : aP prog [] fW fP) (h_slices_Values_Member : aP prog [] c4 c9) (h_ring_from : aP prog [] fG fJ) (h_slices_SortedFunc_Member : aP prog [] cp co) : XOk prog nL := xok (a7 (a7 (a7 (a7 (a7 (a7 (bI bK bh) h_slices_SortedFunc_Member) h_ring_from) h_slices_Values_Member) h_ring_turned_1) h_slices_IndexFunc_Member) h_ring_Right) (by kernel_rfl) ci cJ cK
noncomputable def nI (l : den (Ty.slc ab)) (no : den af) : ae := ae.req True (ae.ite (!aE l) (ae.ret (K.val (Ty.pair (Ty.slc ab) (Ty.pair af Ty.unit)) ([], 1, PUnit.unit))) (ae.req (∀ (y : den (Ty.pair ab Ty.unit)), True) (ae.req (∃ (h : den (Ty.pair ab Ty.unit) → den (Ty.pair Ty.bool Ty.unit)), (some fun (y : den (Ty.pair ab Ty.unit)) ↦ (decide (Prod.fst (Prod.fst y) = no), PUnit.unit)) = some h) (ae.ite (decide (ixP (prM (some fun (y : den (Ty.pair ab Ty.unit)) ↦ (decide (Prod.fst (Prod.fst y) = no), PUnit.unit))) l 0 < 0)) (ae.ret (K.val (Ty.pair (Ty.slc ab) (Ty.pair af Ty.unit)) ([], 6, PUnit.unit))) (ae.req True (ae.req (inB (ixP (prM (some fun (y : den (Ty.pair ab Ty.unit)) ↦ (decide (Prod.fst (Prod.fst y) = no), PUnit.unit))) l 0) (lnx ab l)) (ae.req True (ae.req (eU ab (bp (Prod.fst (Prod.snd (el ab l (ixP (prM (some fun (y : den (Ty.pair ab Ty.unit)) ↦ (decide (Prod.fst (Prod.fst y) = no), PUnit.unit))) l 0))))) l) (ae.ret (K.val (Ty.pair (Ty.slc ab) (Ty.pair af Ty.unit)) (c6 ab (bp (Prod.fst (Prod.snd (el ab l (ixP (prM (some fun (y : den (Ty.pair ab Ty.unit)) ↦ (decide (Prod.fst (Prod.fst y) = no), PUnit.unit))) l 0))))) l, 0, PUnit.unit)))))))))))
theorem pZ (l : den (Ty.slc ab)) (no : den af) : ax nL tt 5000 [] mr (aG jE) (Env.of (a8 mT (l, no, ()) 0) []) = nI l no := by kernel_rfl
noncomputable abbrev dX : Fx := { fn := dK, ann := { loops := [(8, { keep := [8, 10, 27, 28], own := [(10, ab)] })] }, share := true }
noncomputable abbrev ir : bv := { D := { T := cj, F := [(gW, fw)], R := [], ovl := [] }, inl := [] }
noncomputable abbrev oz : c7 := .data fy
theorem kT (h_ring_turned : aP prog [] gW fw) : XOk prog ir := xok (a7 (bI bK bh) h_ring_turned) (by kernel_rfl) ci cJ cK
noncomputable def oH (l : den (Ty.slc ab)) (no : den af) (many : den af) : ae := ae.ite (bif decide (many < 0) then true else decide (16 < many)) (ae.ret (K.val (Ty.pair (Ty.slc ab) (Ty.pair af Ty.unit)) ([], 1, PUnit.unit))) (ae.req True (ae.all (den (Ty.pair (Ty.slc ab) (Ty.pair af Ty.unit))) (fun (q3 : den (Ty.pair (Ty.slc ab) (Ty.pair af Ty.unit))) ↦ q3 = (Prod.fst (aZ l no), Prod.snd (aZ l no), PUnit.unit)) fun (q3 : den (Ty.pair (Ty.slc ab) (Ty.pair af Ty.unit))) ↦ ae.ite (!decide (Prod.fst (Prod.snd q3) = 0)) (ae.ret (K.val (Ty.pair (Ty.slc ab) (Ty.pair af Ty.unit)) ([], Prod.fst (Prod.snd q3), PUnit.unit))) (ae.loop [] dX (lp dK 8) [(8, K.val (Ty.slc ab) (Prod.fst q3)), (10, K.sl 0 ab), (27, K.val af many), (28, K.val af 0)] [(0, Bx.row ab [])])))
theorem rI (l : den (Ty.slc ab)) (no : den af) (many : den af) : ax ir oz 5000 [] dX (aG dK) (Env.of (a8 nJ (l, no, many, ()) 0) []) = oH l no many := by kernel_rfl
noncomputable def mJ (v8 : den (Ty.slc ab)) (v27 : den af) (v28 : den af) (b0 : List (den ab)) : Env := Env.of [(8, K.val (Ty.slc ab) v8), (10, K.sl 0 ab), (27, K.val af v27), (28, K.val af v28)] [(0, Bx.row ab b0)]
noncomputable def rA (v8 : den (Ty.slc ab)) (v27 : den af) (v28 : den af) (b0 : List (den ab)) : ae := ae.ite (decide (v28 < v27)) (ae.req (nz (lnx ab v8)) (ae.req (inB (Int.tmod (IntKind.wrap IntKind.i64 (v28 + 1)) (lnx ab v8)) (lnx ab v8)) (ae.req (List.length (b0 ++ List.set (List.replicate 1 (zero ab)) 0 (el ab v8 (Int.tmod (IntKind.wrap IntKind.i64 (v28 + 1)) (lnx ab v8)))) ≤ cv) (ae.loop [] dX (lp dK 8) [(8, K.val (Ty.slc ab) v8), (10, K.sl 0 ab), (27, K.val af v27), (28, K.val af (IntKind.wrap IntKind.i64 (v28 + 1)))] [(0, Bx.row ab (b0 ++ List.set (List.replicate 1 (zero ab)) 0 (el ab v8 (Int.tmod (IntKind.wrap IntKind.i64 (v28 + 1)) (lnx ab v8)))))])))) (ae.ret (K.val (Ty.pair (Ty.slc ab) (Ty.pair af Ty.unit)) (b0, 0, PUnit.unit)))
theorem ji (v8 : den (Ty.slc ab)) (v27 : den af) (v28 : den af) (b0 : List (den ab)) : ax ir oz 5000 [] dX (lp dK 8) (mJ v8 v27 v28 b0) = rA v8 v27 v28 b0 := by kernel_rfl
noncomputable abbrev br : Fx := { fn := bc, ann := { } }
noncomputable abbrev bf : Fx := { fn := ai, ann := { }, own := [2] }
noncomputable abbrev aV : Fx := { fn := aR, ann := { loops := [(1, { keep := [0, 5, 6, 7] })], frz := [(1000001, [2]), (3000001, [1])] } }
noncomputable abbrev aQ : Fx := { fn := aL, ann := { } }
noncomputable abbrev be : bv := { D := { T := cj, F := [], R := [(cC, dG)], ovl := [] }, inl := [(gH, br), (fX, bf), (dJ, aV)] }
noncomputable abbrev dv : c7 := .data dc
theorem jH (h_slices_SortFunc_Member : jZ prog [] cC dG) : XOk prog be := xok ((bI bK bh)) (by kernel_rfl) (zr h_slices_SortFunc_Member ci) (sK kF (by kernel_rfl) (sK js (by kernel_rfl) (sK j1 (by kernel_rfl) cJ))) cK
noncomputable def fA (seq : den (Ty.clo 37 (Ty.pair (Ty.ref (Ty.slc ab)) Ty.unit))) (cmp : den (Ty.fn (Ty.pair ab (Ty.pair ab Ty.unit)) (Ty.pair af Ty.unit))) : ae := ae.loop [{ fx := bf, todo := iC ai 3, dst := none, s := ofS [(2, K.ptr (0 + 1) (Ty.slc ab) [])], rng := some 0 }, { fx := br, todo := fL bc 1 1, dst := some 4, s := ofS [] }, { fx := aQ, todo := fL aL 1 1, dst := some 7, s := ofS [(1, K.val (Ty.fn (Ty.pair ab (Ty.pair ab Ty.unit)) (Ty.pair af Ty.unit)) cmp)] }] aV (lp aR 1) [(0, K.yld 0), (5, K.val (Ty.slc ab) (Prod.fst seq)), (6, K.val af (lnx ab (Prod.fst seq))), (7, K.val af 0)] [(0, Bx.lop LoopState.ready none [(2, K.ptr (0 + 1) (Ty.slc ab) [])] 13 (u5 ai 3) (kz ai 3) (o3 ai 3)), (0 + 1, Bx.obj (Ty.slc ab) K.nilsl)]
theorem iD (seq : den (Ty.clo 37 (Ty.pair (Ty.ref (Ty.slc ab)) Ty.unit))) (cmp : den (Ty.fn (Ty.pair ab (Ty.pair ab Ty.unit)) (Ty.pair af Ty.unit))) : ax be dv 5000 [] aQ (aG aL) (Env.of (a8 eV (seq, cmp, ()) 0) []) = fA seq cmp := by kernel_rfl
noncomputable def dx (w2_1 : den (Ty.fn (Ty.pair ab (Ty.pair ab Ty.unit)) (Ty.pair af Ty.unit))) (v5 : den (Ty.slc ab)) (v6 : den af) (v7 : den af) : List bq := [{ fx := bf, todo := iC ai 3, dst := none, s := ofS [(2, K.ptr (0 + 1) (Ty.slc ab) [])], rng := some 0 }, { fx := br, todo := fL bc 1 1, dst := some 4, s := ofS [] }, { fx := aQ, todo := fL aL 1 1, dst := some 7, s := ofS [(1, K.val (Ty.fn (Ty.pair ab (Ty.pair ab Ty.unit)) (Ty.pair af Ty.unit)) w2_1)] }]
noncomputable def dw (w2_1 : den (Ty.fn (Ty.pair ab (Ty.pair ab Ty.unit)) (Ty.pair af Ty.unit))) (v5 : den (Ty.slc ab)) (v6 : den af) (v7 : den af) : Env := Env.of [(0, K.yld 0), (5, K.val (Ty.slc ab) v5), (6, K.val af v6), (7, K.val af v7)] [(0, Bx.lop LoopState.ready none [(2, K.ptr (0 + 1) (Ty.slc ab) [])] 13 (u5 ai 3) (kz ai 3) (o3 ai 3)), (1, Bx.obj (Ty.slc ab) K.nilsl)]
noncomputable def dt (w2_1 : den (Ty.fn (Ty.pair ab (Ty.pair ab Ty.unit)) (Ty.pair af Ty.unit))) (v5 : den (Ty.slc ab)) (v6 : den af) (v7 : den af) : ae := ae.ite (decide (v7 < v6)) (ae.req (inB v7 (lnx ab v5)) (ae.req (List.length (List.set (List.replicate 1 (zero ab)) 0 (el ab v5 v7)) ≤ cv) (ae.ite (!true) (ae.req (eU ab w2_1 (List.set (List.replicate 1 (zero ab)) 0 (el ab v5 v7))) (ae.ret (K.val (Ty.pair (Ty.slc ab) Ty.unit) (c6 ab w2_1 (List.set (List.replicate 1 (zero ab)) 0 (el ab v5 v7)), PUnit.unit)))) (ae.loop [{ fx := bf, todo := iC ai 3, dst := none, s := ofS [(2, K.ptr (0 + 1) (Ty.slc ab) [])], rng := some 0 }, { fx := br, todo := fL bc 1 1, dst := some 4, s := ofS [] }, { fx := aQ, todo := fL aL 1 1, dst := some 7, s := ofS [(1, K.val (Ty.fn (Ty.pair ab (Ty.pair ab Ty.unit)) (Ty.pair af Ty.unit)) w2_1)] }] aV (lp aR 1) [(0, K.yld 0), (5, K.val (Ty.slc ab) v5), (6, K.val af v6), (7, K.val af (IntKind.wrap IntKind.i64 (v7 + 1)))] [(0, Bx.lop LoopState.ready none [(2, K.ptr (0 + 1) (Ty.slc ab) [])] 13 (u5 ai 3) (kz ai 3) (o3 ai 3)), (0 + 1, Bx.obj (Ty.slc ab) (K.sl (0 + 1 + 1) ab)), (0 + 1 + 1, Bx.row ab (List.set (List.replicate 1 (zero ab)) 0 (el ab v5 v7)))])))) (ae.req (eU ab w2_1 []) (ae.ret (K.val (Ty.pair (Ty.slc ab) Ty.unit) ([], PUnit.unit))))
theorem c8 (w2_1 : den (Ty.fn (Ty.pair ab (Ty.pair ab Ty.unit)) (Ty.pair af Ty.unit))) (v5 : den (Ty.slc ab)) (v6 : den af) (v7 : den af) : ax be dv 5000 (dx w2_1 v5 v6 v7) aV (lp aR 1) (dw w2_1 v5 v6 v7) = dt w2_1 v5 v6 v7 := by kernel_rfl
noncomputable def bC (w2_1 : den (Ty.fn (Ty.pair ab (Ty.pair ab Ty.unit)) (Ty.pair af Ty.unit))) (v5 : den (Ty.slc ab)) (v6 : den af) (v7 : den af) (b2 : List (den ab)) : List bq := [{ fx := bf, todo := iC ai 3, dst := none, s := ofS [(2, K.ptr (0 + 1) (Ty.slc ab) [])], rng := some 0 }, { fx := br, todo := fL bc 1 1, dst := some 4, s := ofS [] }, { fx := aQ, todo := fL aL 1 1, dst := some 7, s := ofS [(1, K.val (Ty.fn (Ty.pair ab (Ty.pair ab Ty.unit)) (Ty.pair af Ty.unit)) w2_1)] }]
noncomputable def bD (w2_1 : den (Ty.fn (Ty.pair ab (Ty.pair ab Ty.unit)) (Ty.pair af Ty.unit))) (v5 : den (Ty.slc ab)) (v6 : den af) (v7 : den af) (b2 : List (den ab)) : Env := Env.of [(0, K.yld 0), (5, K.val (Ty.slc ab) v5), (6, K.val af v6), (7, K.val af v7)] [(0, Bx.lop LoopState.ready none [(2, K.ptr (0 + 1) (Ty.slc ab) [])] 13 (u5 ai 3) (kz ai 3) (o3 ai 3)), (1, Bx.obj (Ty.slc ab) (K.sl (0 + 1 + 1) ab)), (2, Bx.row ab b2)]
noncomputable def dg (w2_1 : den (Ty.fn (Ty.pair ab (Ty.pair ab Ty.unit)) (Ty.pair af Ty.unit))) (v5 : den (Ty.slc ab)) (v6 : den af) (v7 : den af) (b2 : List (den ab)) : ae := ae.ite (decide (v7 < v6)) (ae.req (inB v7 (lnx ab v5)) (ae.req (List.length (b2 ++ List.set (List.replicate 1 (zero ab)) 0 (el ab v5 v7)) ≤ cv) (ae.ite (!true) (ae.req (eU ab w2_1 (b2 ++ List.set (List.replicate 1 (zero ab)) 0 (el ab v5 v7))) (ae.ret (K.val (Ty.pair (Ty.slc ab) Ty.unit) (c6 ab w2_1 (b2 ++ List.set (List.replicate 1 (zero ab)) 0 (el ab v5 v7)), PUnit.unit)))) (ae.loop [{ fx := bf, todo := iC ai 3, dst := none, s := ofS [(2, K.ptr (0 + 1) (Ty.slc ab) [])], rng := some 0 }, { fx := br, todo := fL bc 1 1, dst := some 4, s := ofS [] }, { fx := aQ, todo := fL aL 1 1, dst := some 7, s := ofS [(1, K.val (Ty.fn (Ty.pair ab (Ty.pair ab Ty.unit)) (Ty.pair af Ty.unit)) w2_1)] }] aV (lp aR 1) [(0, K.yld 0), (5, K.val (Ty.slc ab) v5), (6, K.val af v6), (7, K.val af (IntKind.wrap IntKind.i64 (v7 + 1)))] [(0, Bx.lop LoopState.ready none [(2, K.ptr (0 + 1) (Ty.slc ab) [])] 13 (u5 ai 3) (kz ai 3) (o3 ai 3)), (0 + 1, Bx.obj (Ty.slc ab) (K.sl (0 + 1 + 1) ab)), (0 + 1 + 1, Bx.row ab (b2 ++ List.set (List.replicate 1 (zero ab)) 0 (el ab v5 v7)))])))) (ae.req (eU ab w2_1 b2) (ae.ret (K.val (Ty.pair (Ty.slc ab) Ty.unit) (c6 ab w2_1 b2, PUnit.unit))))
theorem bn (w2_1 : den (Ty.fn (Ty.pair ab (Ty.pair ab Ty.unit)) (Ty.pair af Ty.unit))) (v5 : den (Ty.slc ab)) (v6 : den af) (v7 : den af) (b2 : List (den ab)) : ax be dv 5000 (bC w2_1 v5 v6 v7 b2) aV (lp aR 1) (bD w2_1 v5 v6 v7 b2) = dg w2_1 v5 v6 v7 b2 := by kernel_rfl
end Go.Proofs.Ytiaplhcifflibaa
