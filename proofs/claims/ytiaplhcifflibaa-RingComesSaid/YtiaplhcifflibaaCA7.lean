/- Part 7 of 8 of what this claim's proof stands on: a theory of programs on data, and the contracts of the functions that the law reaches. It holds no condition of its own. -/
import Derived.Test.YtiaplhcifflibaaCA6
import Derived.Test.YtiaplhcifflibaaProg
import Derived.Shelf.SlSortCmp.WholeK
import Derived.Shelf.SlSortCmp.NoneTotal
import Derived.Ground.SlsfProg
namespace Go.Proofs.Ytiaplhcifflibaa
open Go
noncomputable section
noncomputable abbrev prog : Program := Try.prog
abbrev tId : Ty := (.arr 32 (.int .u8))
abbrev ab : Ty := (.st (.pair (.int .i64) (.pair tId .unit)))
def cm : List (Nat × Ty) := [
 (1, (.fn .unit .unit)),
 (2, (.int .i64)),
 (3, (.int .i64)),
 (4, .bool),
 (5, (.int .u8)),
 (9, .str),
 (12, (.int .u64)),
 (21, (.int .i32)),
 (22, (.slc ab)),
 (23, tId),
 (24, tId),
 (25, (.fn (.pair (.slc ab) .unit) (.pair (.slc ab) .unit))),
 (26, (.int .i64)),
 (28, (.fn (.pair (.slc ab) .unit) (.pair (.slc ab) (.pair (.int .i64) .unit)))),
 (29, ab),
 (30, ab),
 (32, (.fn (.pair (.slc ab) (.pair tId .unit)) (.pair ab (.pair (.int .i64) .unit)))),
 (33, (.fn (.pair (.slc ab) .unit) (.pair .bool .unit))),
 (34, (.fn .unit (.pair .bool .unit))),
 (35, (.fn (.pair (.slc ab) (.pair (.slc ab) .unit)) (.pair .bool .unit))),
 (36, (.fn (.pair (.slc ab) (.pair tId .unit)) (.pair ab .unit))),
 (37, (.fn (.pair (.slc ab) (.pair tId .unit)) (.pair .bool .unit))),
 (38, (.fn (.pair (.slc ab) (.pair (.int .i64) (.pair (.int .i64) .unit))) (.pair (.slc ab) (.pair (.int .i64) .unit)))),
 (39, (.fn (.pair (.slc ab) (.pair ab (.pair tId .unit))) (.pair .bool .unit))),
 (40, (.mp (.int .i64) .bool)),
 (41, (.fn (.pair (.slc ab) (.pair (.int .i64) (.pair tId .unit))) (.pair .bool .unit))),
 (42, (.fn (.pair (.slc ab) (.pair (.int .i64) .unit)) (.pair ab (.pair (.int .i64) .unit)))),
 (43, (.fn (.pair (.slc ab) (.pair (.int .i64) .unit)) (.pair ab .unit))),
 (44, (.fn (.pair (.slc ab) (.pair ab .unit)) (.pair ab .unit))),
 (45, (.fn (.pair (.slc ab) (.pair ab (.pair (.int .i64) .unit))) (.pair (.slc ab) .unit))),
 (46, (.fn (.pair (.slc ab) (.pair (.int .i64) (.pair (.int .i64) .unit))) (.pair .bool .unit))),
 (47, (.fn (.pair tId (.pair tId (.pair tId .unit))) (.pair .bool .unit))),
 (48, (.fn (.pair (.fn (.pair (.fn (.pair ab .unit) (.pair .bool .unit)) .unit) .unit) (.pair (.fn (.pair ab (.pair ab .unit)) (.pair (.int .i64) .unit)) .unit)) (.pair (.slc ab) .unit))),
 (49, (.fn (.pair (.fn (.pair ab .unit) (.pair .bool .unit)) .unit) .unit)),
 (50, (.fn (.pair (.fn (.pair ab .unit) (.pair .bool .unit)) .unit) .unit)),
 (51, (.fn (.pair (.slc ab) .unit) (.pair (.fn (.pair (.fn (.pair ab .unit) (.pair .bool .unit)) .unit) .unit) .unit))),
 (52, (.fn (.pair ab (.pair ab .unit)) (.pair (.int .i64) .unit))),
 (53, (.fn (.pair tId .unit) (.pair (.fn (.pair ab (.pair ab .unit)) (.pair (.int .i64) .unit)) .unit))),
 (54, (.fn (.pair (.slc ab) (.pair (.fn (.pair ab (.pair ab .unit)) (.pair (.int .i64) .unit)) .unit)) (.pair ab .unit))),
 (55, (.fn (.pair (.slc ab) (.pair (.fn (.pair ab .unit) (.pair .bool .unit)) .unit)) (.pair .bool .unit))),
 (56, (.fn (.pair ab .unit) (.pair .bool .unit))),
 (57, (.fn (.pair tId (.pair tId .unit)) (.pair (.int .i64) .unit))),
 (58, (.fn (.pair tId (.pair tId .unit)) (.pair tId .unit))),
 (59, (.fn (.pair (.slc ab) (.pair (.int .i64) .unit)) (.pair (.slc ab) (.pair (.int .i64) .unit)))),
 (60, (.fn (.pair (.fn (.pair (.fn (.pair ab .unit) (.pair .bool .unit)) .unit) .unit) .unit) (.pair (.slc ab) .unit))),
 (61, (.fn (.pair (.slc ab) (.pair (.fn (.pair ab (.pair ab .unit)) (.pair (.int .i64) .unit)) .unit)) .unit)),
 (62, (.fn (.pair (.slc ab) (.pair (.fn (.pair ab .unit) (.pair .bool .unit)) .unit)) (.pair (.int .i64) .unit))),
 (63, (.fn (.pair tId (.pair (.int .i64) .unit)) (.pair (.int .i64) .unit))),
 (64, (.fn (.pair tId .unit) (.pair tId .unit))),
 (65, (.fn (.pair (.int .i64) .unit) (.pair tId .unit))),
 (66, (.fn (.pair (.slc (.int .u8)) (.pair (.slc (.int .u8)) .unit)) (.pair (.int .i64) .unit))),
 (67, (.slc (.int .u8))),
 (68, (.fn (.pair (.slc ab) (.pair (.fn (.pair (.fn (.pair ab .unit) (.pair .bool .unit)) .unit) .unit) .unit)) (.pair (.slc ab) .unit))),
 (69, (.fn (.pair (.slc ab) (.pair (.int .i64) (.pair (.int .i64) (.pair (.int .i64) (.pair (.fn (.pair ab (.pair ab .unit)) (.pair (.int .i64) .unit)) .unit))))) .unit)),
 (70, (.fn (.pair (.int .u64) .unit) (.pair (.int .i64) .unit))),
 (71, (.int .u64)),
 (72, (.fn (.pair (.int .u8) (.pair (.int .u8) .unit)) (.pair (.int .i64) .unit))),
 (73, (.fn (.pair (.slc ab) (.pair (.int .i64) (.pair (.int .i64) (.pair (.fn (.pair ab (.pair ab .unit)) (.pair (.int .i64) .unit)) .unit)))) .unit)),
 (74, (.int .i64)),
 (76, (.fn (.pair (.slc ab) (.pair (.int .i64) (.pair (.int .i64) (.pair (.fn (.pair ab (.pair ab .unit)) (.pair (.int .i64) .unit)) .unit)))) (.pair (.int .i64) (.pair (.int .i64) .unit)))),
 (77, (.fn (.pair (.slc ab) (.pair (.int .i64) (.pair (.int .i64) (.pair (.fn (.pair ab (.pair ab .unit)) (.pair (.int .i64) .unit)) .unit)))) (.pair .bool .unit))),
 (78, (.fn (.pair (.slc ab) (.pair (.int .i64) (.pair (.int .i64) (.pair (.int .i64) (.pair (.fn (.pair ab (.pair ab .unit)) (.pair (.int .i64) .unit)) .unit))))) (.pair (.int .i64) .unit))),
 (80, (.fn (.pair (.slc ab) (.pair (.int .i64) (.pair (.int .i64) (.pair (.int .i64) (.pair (.fn (.pair ab (.pair ab .unit)) (.pair (.int .i64) .unit)) .unit))))) (.pair (.int .i64) (.pair .bool .unit)))),
 (81, (.fn (.pair (.int .u32) .unit) (.pair (.int .i64) .unit))),
 (82, (.int .u32)),
 (83, (.fn (.pair (.int .u64) .unit) (.pair (.int .i64) .unit))),
 (84, (.int .u64)),
 (85, (.fn (.pair (.int .u8) .unit) (.pair .bool .unit))),
 (86, (.int .u64)),
 (87, (.fn (.pair (.int .i64) .unit) (.pair (.int .u64) .unit))),
 (88, (.fn .unit (.pair (.int .u64) .unit))),
 (95, (.fn .unit (.pair .str .unit))),
 (101, (.fn .unit (.pair (.int .i64) .unit)))]
theorem bL : nY prog cm = true := by kernel_rfl
theorem bj : prog.follows .mixedOrders = true := by kernel_rfl
abbrev lg : Nat := 4
noncomputable abbrev ia : Func := Try.f4
abbrev cS : Ty := (.pair (.slc ab) (.pair ab (.pair tId .unit)))
abbrev p6 : Ty := (.pair .bool .unit)
theorem qj : Try.prog.funcs[lg]? = some ia := Try.func4
abbrev lu : Nat := 8
noncomputable abbrev oo : Func := Try.f8
abbrev qY : Ty := (.pair (.slc ab) .unit)
abbrev qS : Ty := (.pair (.slc ab) .unit)
theorem wD : Try.prog.funcs[lu]? = some oo := Try.func8
abbrev eW : Nat := 10
noncomputable abbrev kp : Func := Try.f10
abbrev nH : Ty := (.pair (.slc ab) (.pair tId .unit))
abbrev js : Ty := (.pair ab (.pair (.int .i64) .unit))
theorem tb : Try.prog.funcs[eW]? = some kp := Try.func10
abbrev cn : Nat := 11
noncomputable abbrev dE : Func := Try.f11
abbrev nE : Ty := (.pair (.slc ab) .unit)
abbrev ju : Ty := (.pair .bool .unit)
theorem tl : Try.prog.funcs[cn]? = some dE := Try.func11
abbrev i8 : Nat := 13
noncomputable abbrev lY : Func := Try.f13
abbrev oa : Ty := .unit
abbrev oq : Ty := (.pair .bool .unit)
theorem ut : Try.prog.funcs[i8]? = some lY := Try.func13
abbrev ie : Nat := 17
noncomputable abbrev dF : Func := Try.f17
abbrev nw : Ty := (.pair (.slc ab) (.pair (.int .i64) (.pair (.int .i64) .unit)))
abbrev fA : Ty := (.pair (.slc ab) (.pair (.int .i64) .unit))
theorem th : Try.prog.funcs[ie]? = some dF := Try.func17
abbrev cp : Nat := 23
noncomputable abbrev aM : Func := Try.f23
abbrev c6 : Ty := (.pair (.slc ab) .unit)
theorem ji : Try.prog.funcs[cp]? = some aM := Try.func23
abbrev cW : Nat := 24
noncomputable abbrev er : Func := Try.f24
abbrev gA : Ty := (.pair (.slc ab) .unit)
theorem lc : Try.prog.funcs[cW]? = some er := Try.func24
abbrev fG : Nat := 25
noncomputable abbrev lT : Func := Try.f25
abbrev oC : Ty := (.pair tId .unit)
abbrev ow : Ty := (.pair (.fn (.pair ab (.pair ab .unit)) (.pair (.int .i64) .unit)) .unit)
theorem uZ : Try.prog.funcs[fG]? = some lT := Try.func25
abbrev cO : Nat := 26
noncomputable abbrev aU : Func := Try.f26
abbrev gg : Ty := (.pair (.slc ab) (.pair (.fn (.pair ab (.pair ab .unit)) (.pair (.int .i64) .unit)) .unit))
abbrev dI : Ty := (.pair ab .unit)
theorem kB : Try.prog.funcs[cO]? = some aU := Try.func26
abbrev bZ : Nat := 27
noncomputable abbrev cU : Func := Try.f27
abbrev eC : Ty := (.pair (.slc ab) (.pair (.fn (.pair ab .unit) (.pair .bool .unit)) .unit))
abbrev eE : Ty := (.pair .bool .unit)
theorem iz : Try.prog.funcs[bZ]? = some cU := Try.func27
abbrev gl : Nat := 28
noncomputable abbrev iO : Func := Try.f28
abbrev lF : Ty := (.pair ab (.pair (.ref ab) .unit))
abbrev lf : Ty := (.pair .bool .unit)
theorem qK : Try.prog.funcs[gl]? = some iO := Try.func28
abbrev gQ : Nat := 31
noncomputable abbrev jF : Func := Try.f31
abbrev mE : Ty := (.pair (.slc ab) (.pair (.int .i64) .unit))
abbrev iH : Ty := (.pair (.slc ab) (.pair (.int .i64) .unit))
theorem sG : Try.prog.funcs[gQ]? = some jF := Try.func31
abbrev i7 : Nat := 33
noncomputable abbrev bJ : Func := Try.f33
abbrev oV : Ty := (.pair tId (.pair tId .unit))
abbrev fX : Ty := (.pair tId .unit)
theorem uE : Try.prog.funcs[i7]? = some bJ := Try.func33
abbrev fL : Nat := 34
noncomputable abbrev fQ : Func := Try.f34
abbrev kV : Ty := (.pair tId (.pair tId .unit))
abbrev k7 : Ty := (.pair (.int .i64) .unit)
theorem qf : Try.prog.funcs[fL]? = some fQ := Try.func34
abbrev gz : Nat := 35
noncomputable abbrev be : Func := Try.f35
theorem kP : Try.prog.funcs[gz]? = some be := Try.func35
abbrev cF : Nat := 36
noncomputable abbrev kC : Func := Try.f36
theorem jM : Try.prog.funcs[cF]? = some kC := Try.func36
abbrev dG : Nat := 37
noncomputable abbrev aQ : Func := Try.f37
theorem jP : Try.prog.funcs[dG]? = some aQ := Try.func37
abbrev gT : Nat := 38
noncomputable abbrev jy : Func := Try.f38
abbrev mI : Ty := (.pair ab (.pair ab (.pair (.ref tId) .unit)))
abbrev mt : Ty := (.pair (.int .i64) .unit)
theorem rR : Try.prog.funcs[gT]? = some jy := Try.func38
abbrev bn : Nat := 39
noncomputable abbrev aV : Func := Try.f39
abbrev fm : Ty := (.pair (.slc ab) (.pair (.fn (.pair ab .unit) (.pair .bool .unit)) .unit))
abbrev dl : Ty := (.pair (.int .i64) .unit)
theorem jz : Try.prog.funcs[bn]? = some aV := Try.func39
abbrev fR : Nat := 44
noncomputable abbrev im : Func := Try.f44
abbrev kF : Ty := (.pair ab (.pair (.ref (.int .i64)) .unit))
abbrev kE : Ty := (.pair .bool .unit)
theorem pZ : Try.prog.funcs[fR]? = some im := Try.func44
abbrev de : Nat := 45
noncomputable abbrev aN : Func := Try.f45
abbrev gF : Ty := (.pair (.slc (.int .u8)) (.pair (.slc (.int .u8)) .unit))
abbrev c4 : Ty := (.pair (.int .i64) .unit)
theorem lU : Try.prog.funcs[de]? = some aN := Try.func45
abbrev fW : Nat := 46
noncomputable abbrev ai : Func := Try.f46
theorem jw : Try.prog.funcs[fW]? = some ai := Try.func46
abbrev dZ : Nat := 49
noncomputable abbrev d7 : Func := Try.f49
abbrev iB : Ty := (.pair (.int .u8) (.pair (.int .u8) .unit))
abbrev iA : Ty := (.pair (.int .i64) .unit)
theorem nK : Try.prog.funcs[dZ]? = some d7 := Try.func49
abbrev ff : Nat := 60
noncomputable abbrev fc : Func := Try.f60
abbrev jK : Ty := (.pair (.int .u8) .unit)
abbrev jJ : Ty := (.pair .bool .unit)
theorem pl : Try.prog.funcs[ff]? = some fc := Try.func60
end
end Go.Proofs.Ytiaplhcifflibaa
namespace Go.Proofs.Ytiaplhcifflibaa
open Go Go.RowKit
theorem i9 {σ : Type} (n : Nat) (Inv : Nat → σ → Prop) (Q : Nat → σ → Prop) (step : ∀ i s, i < n → Inv i s → (∀ s', Inv (i + 1) s' → Q (i + 1) s') → Q i s) (last : ∀ s, Inv n s → Q n s) : ∀ (i : Nat) (s : σ), i ≤ n → Inv i s → Q i s := by
 intro i s hi
 obtain ⟨k, hk⟩ : ∃ k, k + i = n := ⟨n - i, by omega⟩
 induction k generalizing i s with
 | zero =>
  have e : i = n := by omega
  subst e
  exact last s
 | succ k ih =>
  intro hI
  exact step i s (by omega) hI fun s' h' => ih (i + 1) s' (by omega) (by omega) h'
theorem oX {e : Ty} (t : List (den e)) {i : Nat} : (decide ((i : Int) < lnx e t)) = decide (i < t.length) := by
 rw [Bool.eq_iff_iff, decide_eq_true_eq, decide_eq_true_eq]
 exact ⟨fun h => by have h : (i : Int) < (t.length : Int) := h; omega, fun h => by show (i : Int) < (t.length : Int); omega⟩
theorem e9 {n : Int} (h : -1000000000000000 ≤ n ∧ n ≤ 1000000000000000) : IntKind.wrap .i64 n = n := yd (by omega) (by omega)
theorem iq {P : ae → Prop} {A : Type} {e : A} {f : A → ae} (h : P (f e)) : ∀ q, q = e → P (f q) := fun q hq => by cases hq; exact h
theorem AT {e : Ty} (l : List (den e)) (n : Nat) : gR e l 0 (l8 (lnx e l) (n : Int)) = l.take n ∧ bH 0 (l8 (lnx e l) (n : Int)) (lnx e l) := by
 have h : lnx e l = (l.length : Int) := rfl
 unfold gR eR l8 bH
 rw [h]
 have h0 : Int.toNat 0 = 0 := rfl
 rw [h0, List.drop_zero]
 split
 ·rw [Int.toNat_natCast]
  exact ⟨rfl, by omega, by omega, by omega⟩
 ·rw [Int.toNat_natCast, List.take_length, List.take_of_length_le (by omega)]
  exact ⟨rfl, by omega, by omega, by omega⟩
theorem uk {n : Int} (h : 0 ≤ n ∧ n ≤ 255) : IntKind.wrap .u8 n = n := by
 unfold IntKind.wrap
 simp only [IntKind.signed, IntKind.bits]
 simp
 omega
end Go.Proofs.Ytiaplhcifflibaa
namespace Go.Proofs.Ytiaplhcifflibaa
open Go Go.RowKit
def cG : (t : Ty) → den t → List Value
 | .int k, x => [.int k x]
 | .bool, x => [.bool x]
 | .str, x => [.string x]
 | .unit, _ => []
 | .pair a b, x => cG a x.1 ++ cG b x.2
 | .st b, x => cG b x
 | .arr _ e, x => x.flatMap (cG e)
 | .slc _, _ => []
 | .fn _ _, _ => []
 | .ref _, _ => []
 | .mp _ _, _ => []
 | .clo _ _, _ => []
theorem iV {α β : Type} {f : α → List β} {k : Nat} : ∀ {xs : List α}, (∀ x ∈ xs, (f x).length = k) → (xs.flatMap f).length = xs.length * k
 | [], _ => by simp
 | x :: xs, h => by
  rw [List.flatMap_cons, List.length_append, h x List.mem_cons_self, iV fun y hy => h y (List.mem_cons_of_mem _ hy), List.length_cons, Nat.add_mul, Nat.one_mul, Nat.add_comm]
theorem m6 {P : Program} {O : Nat → Prop} {w : World} {e : Ty} {ok : den e → Prop} (h : ∀ cs x, Rep P e .cells O w cs x → cs = cG e x ∧ ok x) : ∀ {xs : List (den e)} {L : List Value}, RepAll (fun cs x => Rep P e .cells O w cs x) (siz e) L xs → L = xs.flatMap (cG e) ∧ ∀ x ∈ xs, ok x
 | [], L, hh => ⟨by rw [show L = [] from hh]; rfl, fun x hx => by cases hx⟩
 | x :: xs, L, hh => by
  obtain ⟨h1, h2⟩ := hh
  obtain ⟨e1, o1⟩ := h _ _ h1
  obtain ⟨e2, o2⟩ := m6 h h2
  refine ⟨?_, fun y hy => ?_⟩
  ·rw [List.flatMap_cons, ← e1, ← e2, List.take_append_drop]
  ·rcases List.mem_cons.1 hy with rfl | hy
   ·exact o1
   ·exact o2 y hy
theorem m8 {P : Program} {O : Nat → Prop} {w : World} {e : Ty} {ok : den e → Prop} (h : ∀ x, ok x → Rep P e .cells O w (cG e x) x) (hl : ∀ x, ok x → (cG e x).length = siz e) : ∀ {xs : List (den e)}, (∀ x ∈ xs, ok x) → RepAll (fun cs x => Rep P e .cells O w cs x) (siz e) (xs.flatMap (cG e)) xs
 | [], _ => rfl
 | x :: xs, hh => by
  have hx := hh x List.mem_cons_self
  refine ⟨?_, ?_⟩
  ·rw [List.flatMap_cons, List.take_append_of_le_length (by rw [hl x hx]; exact Nat.le_refl _), List.take_of_length_le (by rw [hl x hx]; exact Nat.le_refl _)]
   exact h x hx
  ·rw [List.flatMap_cons, List.drop_append_of_le_length (by rw [hl x hx]; exact Nat.le_refl _), List.drop_of_length_le (by rw [hl x hx]; exact Nat.le_refl _), List.nil_append]
   exact m8 h hl fun y hy => hh y (List.mem_cons_of_mem _ hy)
theorem Af {P : Program} {O : Nat → Prop} {w : World} : ∀ {t : Ty}, cR t = true → ∀ cs x, Rep P t .cells O w cs x → cs = cG t x ∧ okT t x := by
 intro t
 induction t with
 | int k => intro _ cs x h; exact ⟨h.1, h.2⟩
 | bool => intro _ cs x h; exact ⟨h, trivial⟩
 | str => intro _ cs x h; exact ⟨h.1, h.2⟩
 | unit => intro _ cs x h; exact ⟨h, trivial⟩
 | pair a b iha ihb =>
  intro hf cs x h
  simp only [cR, Bool.and_eq_true] at hf
  obtain ⟨e1, o1⟩ := iha hf.1 _ _ h.1
  obtain ⟨e2, o2⟩ := ihb hf.2 _ _ h.2
  refine ⟨?_, o1, o2⟩
  show cs = cG a x.1 ++ cG b x.2
  rw [← e1, ← e2, List.take_append_drop]
 | st b ih => intro hf cs x h; exact ih hf cs x h
 | arr n e ih =>
  intro hf cs x h
  obtain ⟨e1, o1⟩ := m6 (ok := okT e) (ih hf) h.2
  exact ⟨e1, h.1, o1⟩
 | _ => intro hf; cases hf
theorem k6 : ∀ {t : Ty}, cR t = true → ∀ x, okT t x → (cG t x).length = siz t := by
 intro t
 induction t with
 | int k => intro _ x _; rfl
 | bool => intro _ x _; rfl
 | str => intro _ x _; rfl
 | unit => intro _ x _; rfl
 | pair a b iha ihb =>
  intro hf x h
  simp only [cR, Bool.and_eq_true] at hf
  show (cG a x.1 ++ cG b x.2).length = siz a + siz b
  rw [List.length_append, iha hf.1 _ h.1, ihb hf.2 _ h.2]
 | st b ih => intro hf x h; exact ih hf x h
 | arr n e ih =>
  intro hf x h
  show (List.flatMap (cG e) x).length = n * siz e
  rw [iV fun y hy => ih hf y (h.2 y hy), h.1]
 | _ => intro hf; cases hf
theorem sj {P : Program} {O : Nat → Prop} {w : World} : ∀ {t : Ty}, cR t = true → ∀ x, okT t x → Rep P t .cells O w (cG t x) x := by
 intro t
 induction t with
 | int k => intro _ x h; exact ⟨rfl, h⟩
 | bool => intro _ x _; rfl
 | str => intro _ x h; exact ⟨rfl, h⟩
 | unit => intro _ x _; rfl
 | pair a b iha ihb =>
  intro hf x h
  simp only [cR, Bool.and_eq_true] at hf
  have hl := k6 hf.1 _ h.1
  refine ⟨?_, ?_⟩
  ·show Rep P a .cells O w ((cG a x.1 ++ cG b x.2).take (siz a)) x.1
   rw [List.take_append_of_le_length (by rw [hl]; exact Nat.le_refl _), List.take_of_length_le (by rw [hl]; exact Nat.le_refl _)]
   exact iha hf.1 _ h.1
  ·show Rep P b .cells O w ((cG a x.1 ++ cG b x.2).drop (siz a)) x.2
   rw [List.drop_append_of_le_length (by rw [hl]; exact Nat.le_refl _), List.drop_of_length_le (by rw [hl]; exact Nat.le_refl _), List.nil_append]
   exact ihb hf.2 _ h.2
 | st b ih => intro hf x h; exact ih hf x h
 | arr n e ih => intro hf x h; exact ⟨h.1, m8 (ok := okT e) (ih hf) (k6 hf) h.2⟩
 | _ => intro hf; cases hf
theorem yW : ∀ {t : Ty}, cR t = true → ∀ x, ∀ v ∈ cG t x, v.oneCell' = true := by
 intro t
 induction t with
 | int k => intro _ x v hv; rw [List.mem_singleton.1 hv]; rfl
 | bool => intro _ x v hv; rw [List.mem_singleton.1 hv]; rfl
 | str => intro _ x v hv; rw [List.mem_singleton.1 hv]; rfl
 | unit => intro _ x v hv; cases hv
 | pair a b iha ihb =>
  intro hf x v hv
  simp only [cR, Bool.and_eq_true] at hf
  rcases List.mem_append.1 hv with hv | hv
  ·exact iha hf.1 _ v hv
  ·exact ihb hf.2 _ v hv
 | st b ih => intro hf x; exact ih hf x
 | arr n e ih =>
  intro hf x v hv
  obtain ⟨y, _, hy⟩ := List.mem_flatMap.1 hv
  exact ih hf y v hy
 | _ => intro hf; cases hf
theorem rc {α : Type} [Inhabited α] {f : α → List Value} {k : Nat} (hk : ∀ x, (f x).length = k) : ∀ (xs : List α) (t : Nat), t < xs.length * k → (xs.flatMap f)[t]? = (f (xs[t / k]?.getD default))[t % k]?
  | [], t, h => by simp at h
  | x :: xs, t, h => by
    rw [List.flatMap_cons, List.getElem?_append, hk]
    have k0 : 0 < k := by rcases Nat.eq_zero_or_pos k with e | e
                          · subst e; simp at h
                          · exact e
    split
    · rename_i hlt
      rw [Nat.div_eq_of_lt hlt, Nat.mod_eq_of_lt hlt]
      rfl
    · rename_i hge
      have hge : k ≤ t := by omega
      rw [List.length_cons, Nat.add_mul, Nat.one_mul] at h
      rw [rc hk xs (t - k) (by omega)]
      have e1 : t / k = (t - k) / k + 1 := by
        rw [Nat.div_eq_sub_div k0 hge]
      have e2 : t % k = (t - k) % k := Nat.mod_eq_sub_mod hge
      rw [e1, e2]
      rfl
theorem nP {α : Type} [Inhabited α] (enc : α → List Value) (k : Nat) (hk : ∀ x, (enc x).length = k) (d : Array α) : (Sort.flatK enc k d).toList = d.toList.flatMap enc := by
 apply List.ext_getElem?
 intro t
 by_cases h : t < d.size * k
 ·have hl : t < (Sort.flatK enc k d).size := by rw [Sort.size_flatK]; exact h
  have h1 : (Sort.flatK enc k d)[t]? = some ((Sort.flatK enc k d)[t]!) := by rw [getElem!_pos (Sort.flatK enc k d) t hl, Array.getElem?_eq_getElem hl]
  rw [Array.getElem?_toList, h1, Sort.get_flatK enc k d t h, rc hk d.toList t (by rw [Array.length_toList]; exact h)]
  have e : d.toList[t / k]?.getD default = d[t / k]! := by rw [Array.getElem?_toList, getElem!_def]; cases d[t / k]? <;> rfl
  rw [e]
  have hm : t % k < (enc d[t / k]!).length := by
   rw [hk]
   refine Nat.mod_lt _ ?_
   rcases Nat.eq_zero_or_pos k with e | e
   ·subst e; simp at h
   ·exact e
  rw [List.getElem?_eq_getElem hm, getElem!_pos (enc d[t / k]!) (t % k) hm]
 ·rw [List.getElem?_eq_none (by rw [Array.length_toList, Sort.size_flatK]; omega), List.getElem?_eq_none (by rw [iV (k := k) (fun x _ => hk x), Array.length_toList]; omega)]
theorem xQ {α : Type} [Inhabited α] {enc : α → List Value} {k : Nat} (hk : ∀ x, (enc x).length = k) {w : World} {g off : Nat} {d : Array α} {arr : Array Value} {eid : TypeId} (hg : w.heap[g]? = some (.cells arr eid (0, 0))) (hL : (arr.toList.drop off).take (d.size * k) = d.toList.flatMap enc) (hb : off + d.size * k ≤ arr.size) :
    Sort.HoldsK enc k w g off d := by
  intro j hj
  have hj' : j < d.size * k := by rw [Sort.size_flatK] at hj; exact hj
  have e1 : (Sort.flatK enc k d).toList[j]? = some ((Sort.flatK enc k d)[j]!) := by rw [Array.getElem?_toList, getElem!_pos (Sort.flatK enc k d) j hj, Array.getElem?_eq_getElem hj]
  rw [nP enc k hk, ← hL, List.getElem?_take, if_pos hj', List.getElem?_drop, Array.getElem?_toList] at e1
  refine ⟨?_, ?_⟩
  · show (match w.heap[g]? with | some (.cells c _ _) => if (none : Option _).isSome then none else c[off + j]? | _ => none) = _
    rw [hg]
    exact e1
  · show (match w.heap[g]? with | some (.cells _ _ (lo, hi)) => decide (lo ≤ off + j) && decide (off + j < hi) | _ => false) = false
    rw [hg]
    simp
theorem qv {F arr : Array Value} {off : Nat} (h : off + F.size ≤ arr.size) : Sort.putCells id off F arr = (ah arr.toList off F.toList).toArray := by
 apply Array.ext_getElem?
 intro i
 unfold Sort.putCells ah
 simp only [List.append_assoc]
 refine Eq.trans ?_ (List.getElem?_toArray ..).symm
 rw [Array.getElem?_mapIdx, List.getElem?_append, List.length_take, Array.length_toList, Nat.min_eq_left (by omega), List.getElem?_append, Array.length_toList, List.getElem?_take, List.getElem?_drop, Array.getElem?_toList, Array.getElem?_toList, Array.getElem?_toList]
 by_cases h1 : i < off
 ·rw [if_pos h1, if_pos h1]
  have : arr[i]? = some arr[i] := Array.getElem?_eq_getElem (by omega)
  rw [this, Option.map_some, if_neg (by omega)]
 ·rw [if_neg h1]
  by_cases h2 : i - off < F.size
  ·have : arr[i]? = some arr[i] := Array.getElem?_eq_getElem (by omega)
   rw [if_pos h2, this, Option.map_some, if_pos ⟨by omega, by omega⟩, Array.getElem?_eq_getElem h2]
   congr 1
   exact getElem!_pos F (i - off) h2
  ·rw [if_neg h2, show off + F.size + (i - off - F.size) = i by omega]
   cases e : arr[i]? with
   | none => rfl
   | some z => rw [Option.map_some, if_neg (by omega)]
theorem xW {α : Type} [Inhabited α] {enc : α → List Value} {k : Nat} (hk : ∀ x, (enc x).length = k) {w : World} {g off n : Nat} {d : Array α} {os : Array Obj} {arr : Array Value} {eid : TypeId} (hg : w.heap[g]? = some (.cells arr eid (0, 0))) (hb : off + d.size * k ≤ arr.size) :
    Kept (w.setRow g (ah arr.toList off (d.toList.flatMap enc)).toArray) (Go.Proofs.sortWorldK enc k w g off n d os) := by
  have hF : (Sort.flatK enc k d).size = d.size * k := Sort.size_flatK ..
  have e0 : Sort.putCells id off (Sort.flatK enc k d) arr = (ah arr.toList off (d.toList.flatMap enc)).toArray := by
    rw [qv (by rw [hF]; exact hb), nP enc k hk]
  have hlt : g < w.heap.size := (Array.getElem?_eq_some_iff.1 hg).1
  have hheap : (Sort.putRowK enc k (Sort.ahead w n) g off d).heap = (w.setRow g (ah arr.toList off (d.toList.flatMap enc)).toArray).heap := by
    apply Array.ext_getElem?
    intro b
    show (w.heap.modify g (Sort.onCells (Sort.putCells id off (Sort.flatK enc k d))))[b]? = _
    by_cases hbg : b = g
    · subst hbg
      rw [setRow_heap w b arr _ eid (0, 0) hg, Array.getElem?_modify, if_pos rfl, hg, Option.map_some]
      show some (Obj.cells (Sort.putCells id off (Sort.flatK enc k d) arr) eid (0, 0)) = _
      rw [e0]
    · rw [setRow_other w g b _ hbg, Array.getElem?_modify, if_neg (Ne.symm hbg)]
  refine ⟨rfl, ⟨rfl, fun _ => Nat.le_add_right _ _⟩, rfl, ?_, fun b hb' => ?_⟩
  · show _ ≤ ((Sort.putRowK enc k (Sort.ahead w n) g off d).heap ++ os).size
    rw [hheap, Array.size_append]
    exact Nat.le_add_right _ _
  · show ((Sort.putRowK enc k (Sort.ahead w n) g off d).heap ++ os)[b]? = _
    rw [hheap, Array.getElem?_append, if_pos hb']
theorem uL {w w' : World} (h : Kept w w') : ∃ q os, w' = Sort.grow (w.drewN q) os := by
 obtain ⟨h1, h2, h3, h4, h5⟩ := h
 refine ⟨w'.drawn - w.drawn, w'.heap.extract w.heap.size w'.heap.size, ?_⟩
 have hd := h2.le trivial
 have hh : w'.heap = w.heap ++ w'.heap.extract w.heap.size w'.heap.size := by
  apply Array.ext_getElem?
  intro b
  rw [Array.getElem?_append]
  split
  ·rename_i hb; exact h5 b hb
  ·rename_i hb
   rw [Array.getElem?_extract, Nat.add_sub_cancel' (by omega)]
   split
   ·rfl
   ·rename_i hb'
    exact Array.getElem?_eq_none (by omega)
 have ht := h2.eq
 cases w
 cases w'
 simp only at h1 h3 hh hd ht
 unfold Sort.grow World.drewN
 simp only [World.mk.injEq]
 exact ⟨hh, ht, by omega, h1, h3⟩
abbrev InT (e : Ty) (xs : List (den e)) := {x : den e // okT e x ∧ x ∈ xs}
abbrev lH (e : Ty) : Ty := .fn (.pair e (.pair e .unit)) (.pair af .unit)
def cfD (e : Ty) (f : den (lH e)) (x y : den e) : Int := (tB (a := .pair e (.pair e .unit)) (r := .pair af .unit) f (x, y, ())).1
def ltD (e : Ty) (f : den (lH e)) (x y : den e) : Bool := decide (cfD e f x y < 0)
def jD (e : Ty) (xs : List (den e)) (x : InT e xs) : List Value := cG e x.1
theorem zk {P : Program} {e : Ty} (hfl : cR e = true) (hag : isAgg e = true) {xs : List (den e)} [Inhabited (InT e xs)] {O : Nat → Prop} {w : World} {g : Nat} (hO : ∀ b, O b → b < w.heap.size) (hg : O g) {q : den (.pair e (.pair e .unit)) → den (.pair af .unit)} {f : FuncId} {cb : Array Value}
    (hf : ∀ O' w', Lat O w O' w' → (∀ g, O' g → g < w'.heap.size) → ∀ vs x, Rep P (.pair e (.pair e .unit)) .chain O' w' vs x → Calls P f (vs.toArray ++ cb) w' fun e' w'' => ∃ v, e' = .returned v ∧ Kept w' w'' ∧ Rep P (.pair af .unit) .result O' w'' [v] (q x))
    {off size : Nat} : Go.Proofs.CmpLays P f cb (jD e xs) (siz e) (fun x y => cfD e (some q) x.1 y.1) g off size w := by
  intro m os dk hs x y
  have hlat : Lat O w O (Go.Proofs.sortWorldK (jD e xs) (siz e) w g off m dk os) := by
    refine ⟨?_, fun b hb hnb => ⟨?_, hnb⟩⟩
    · show _ ≤ ((w.heap.modify g _) ++ os).size
      rw [Array.size_append, Array.size_modify]
      exact Nat.le_add_right _ _
    · have hbg : ¬ g = b := fun h => hnb (h ▸ hg)
      show ((w.heap.modify g _) ++ os)[b]? = _
      rw [Array.getElem?_append, if_pos (by rw [Array.size_modify]; exact hb), Array.getElem?_modify, if_neg hbg]
  have hx : Rep P (.pair e (.pair e .unit)) .chain O (Go.Proofs.sortWorldK (jD e xs) (siz e) w g off m dk os) [.agg (jD e xs x).toArray, .agg (jD e xs y).toArray] (x.1, y.1, ()) := by
    have e1 : ∀ z : InT e xs, Value.agg (jD e xs z).toArray = al e (cG e z.1) := fun z => by unfold al; rw [hag]; rfl
    rw [e1 x, e1 y]
    exact ⟨[al e (cG e y.1)], cG e x.1, rfl, sj hfl _ x.2.1, [], cG e y.1, rfl, sj hfl _ y.2.1, rfl⟩
  have := hf O _ hlat (fun b hb => Nat.lt_of_lt_of_le (hO b hb) hlat.size) _ _ hx
  refine Calls.mono this ?_
  rintro e' w'' ⟨v, rfl, hk, rest, cs, hv, hi, hr⟩
  refine ⟨?_, ?_⟩
  · have hi : cs = [.int .i64 (q (x.1, y.1, ())).1] := hi.1
    subst hi
    have hv : [v] = [Value.int .i64 (q (x.1, y.1, ())).1] := hv
    have : v = Value.int .i64 (q (x.1, y.1, ())).1 := by simpa using hv
    rw [this]
    rfl
  · exact uL hk
def cX (e : Ty) (f : den (lH e)) (xs : List (den e)) : List (den e) := xs.mergeSort fun x y => !ltD e f y x
structure eQ (e : Ty) (f : den (lH e)) (xs : List (den e)) : Prop where
 fn : xc (a := .pair e (.pair e .unit)) (r := .pair af .unit) f
 swo : Sort.SWO (ltD e f)
 tot : ∀ x ∈ xs, ∀ y ∈ xs, ltD e f x y = false → ltD e f y x = false → x = y
 len : xs.length ≤ 1000000
@[reducible] def zz (e : Ty) : dU := ⟨e, true, .pair (lH e) .unit, false, fun xs y => eQ e y.1 xs, fun xs y => cX e y.1 xs⟩
theorem zb {P : Program} {Gl : eK} {e : Ty} (hfl : cR e = true) (hag : isAgg e = true) {fid : FuncId} (can : dA P fid)
    (none : ∀ (p : Option Addr) (cap : Nat) (fv : Value) (w : World), Calls P fid #[.slice p 0 cap, fv] w fun e' w' => e' = .returned (.tuple #[]) ∧ w' = w)
    (tot : ∀ {α : Type} [Inhabited α] (enc : α → List Value) (_ : ∀ x, (enc x).length = siz e) (_ : ∀ x, ∀ v ∈ enc x, v.oneCell' = true) (cf : α → α → Int) (_ : Sort.SWO (Go.Proofs.ltOf cf)) (g : Nat) (cb : Array Value) (blk off cap : Nat) (d : Array α) (w : World)
      (_ : ∀ args w, (callFunc g args).run P w = .ok (.enter g args) w) (_ : Go.Proofs.CmpLays P g cb enc (siz e) cf blk off d.size w) (_ : Sort.HoldsK enc (siz e) w blk off d) (_ : blk < w.heap.size) (_ : d.size < 4611686018427387904) (_ : ∀ x y, (Go.Proofs.ltOf cf) x y = false → (Go.Proofs.ltOf cf) y x = false → x = y),
      Calls P fid #[.slice (some ⟨blk, off, Option.none⟩) d.size cap, .func (.func g) #[] cb] w fun e' w' => e' = .returned (.tuple #[]) ∧ ∃ n os, w' = Go.Proofs.sortWorldK enc (siz e) w blk off n (d.toList.mergeSort fun x y => !(Go.Proofs.ltOf cf) y x).toArray os) :
    jU P Gl fid (zz e) := by
  refine ⟨can, rfl, fun xs y _ => List.length_mergeSort .., fun O w a0 c vs y hO hgl hv hp => ?_, fun O w g off c arr eid xs vs y hO hg hgl hne hrow hb hc hm hrep hv hp => ?_⟩
  · obtain ⟨rest, cs, rfl, hf, hr⟩ := hv
    have hr : rest = [] := hr
    subst hr
    refine Calls.mono (none a0 c _ w) fun e' w' he => ⟨he.1, by rw [he.2]; exact Kept.refl w⟩
  · obtain ⟨f, ⟨⟩⟩ := y
    obtain ⟨rest, cs, rfl, hf, hr⟩ := hv
    have hr : rest = [] := hr
    subst hr
    obtain ⟨q, hq⟩ := hp.fn
    have hq : f = some q := hq
    subst hq
    obtain ⟨fi, captured, rfl, hcan, hdo⟩ := hf
    obtain ⟨hL, hok⟩ := m6 (ok := okT e) (Af hfl) hrep
    have hlx : xs.length ≤ 1000000 := hp.len
    let ys : List (InT e xs) := xs.attach.map fun x => ⟨x.1, hok x.1 x.2, x.2⟩
    have hys : ys.map (·.1) = xs := by
      show (xs.attach.map _).map _ = xs
      rw [List.map_map]
      exact List.attach_map_subtype_val xs
    have hyl : ys.length = xs.length := by simpa using congrArg List.length hys
    obtain ⟨y0, hy0⟩ : ∃ y0, y0 ∈ ys := by
      cases hc0 : ys with
      | nil => rw [hc0] at hys; exact absurd hys.symm hne
      | cons z zs => exact ⟨z, List.mem_cons_self⟩
    haveI : Inhabited (InT e xs) := ⟨y0⟩
    have hflat : ∀ zs : List (InT e xs), zs.flatMap (jD e xs) = (zs.map (·.1)).flatMap (cG e) := fun zs => by
      rw [List.flatMap_map]
      rfl
    have hk : ∀ x, (jD e xs x).length = siz e := fun x => k6 hfl _ x.2.1
    have hnb : ¬ e = .int .u8 := fun h => by rw [h] at hag; cases hag
    obtain ⟨fz, hgr, hfz⟩ := hrow
    have hfz : fz = (0, 0) := hfz.resolve_right fun h => hnb h.1
    subst hfz
    have hlt : g < w.heap.size := (Array.getElem?_eq_some_iff.1 hgr).1
    have hsz : ys.toArray.size = xs.length := by rw [List.size_toArray, hyl]
    have hH : Sort.HoldsK (jD e xs) (siz e) w g off ys.toArray := xQ hk hgr (by rw [hsz, hL]; show _ = ys.flatMap (jD e xs); rw [hflat, hys]) (by rw [hsz]; exact hb)
    have := tot (jD e xs) hk (fun x => yW hfl x.1) (fun x y => cfD e (some q) x.1 y.1) ⟨fun x => hp.swo.irrefl x.1, fun x y z => hp.swo.trans x.1 y.1 z.1, fun x y z => hp.swo.ntrans x.1 y.1 z.1⟩ fi captured g off c ys.toArray w hcan (zk hfl hag hO hg hdo) hH hlt (by rw [hsz]; omega)
      (fun x y h1 h2 => Subtype.ext (hp.tot x.1 x.2.2 y.1 y.2.2 h1 h2))
    rw [hsz] at this
    refine Calls.mono this ?_
    rintro e' w' ⟨rfl, n, os, rfl⟩
    refine ⟨rfl, (cX e (some q) xs).flatMap (cG e), ?_, ?_, ?_⟩
    · have hmem : ∀ x ∈ cX e (some q) xs, x ∈ xs := fun x hx => (List.mem_mergeSort).1 hx
      have hlen : (cX e (some q) xs).length = xs.length := List.length_mergeSort ..
      rw [iV (k := siz e) fun x hx => k6 hfl x (hok x (hmem x hx)), hlen]
    · have hmem : ∀ x ∈ cX e (some q) xs, x ∈ xs := fun x hx => (List.mem_mergeSort).1 hx
      exact m8 (ok := okT e) (sj hfl) (k6 hfl) fun x hx => hok x (hmem x hx)
    · have hs : ((ys.mergeSort fun x y => !(Go.Proofs.ltOf fun (x y : InT e xs) => cfD e (some q) x.1 y.1) y x).map (·.1)) = cX e (some q) xs := by
        have := List.map_mergeSort (r := fun x y => !(Go.Proofs.ltOf fun (x y : InT e xs) => cfD e (some q) x.1 y.1) y x) (s := fun x y => !ltD e (some q) y x) (f := fun x : InT e xs => x.1) (l := ys) (fun a _ b _ => rfl)
        rw [hys] at this
        exact this
      have hk2 := xW (enc := jD e xs) hk (n := n) (os := os) (d := (ys.mergeSort fun x y => !(Go.Proofs.ltOf fun (x y : InT e xs) => cfD e (some q) x.1 y.1) y x).toArray) hgr (off := off) (by rw [List.size_toArray, List.length_mergeSort, hyl]; exact hb)
      rw [hflat, hs] at hk2
      exact hk2
end Go.Proofs.Ytiaplhcifflibaa
namespace Go.Proofs.Ytiaplhcifflibaa
open Go Go.RowKit
noncomputable abbrev gX : ar := { T := cm, F := [], n := (fc).ntmps }
noncomputable abbrev kH : Ann := { }
theorem pV : bN prog gX := uG ((bI bL bj))
theorem po : cV gX = true := by kernel_rfl
noncomputable def kY (x : den (Ty.int IntKind.u8)) : aI := aI.ret (K.val (Ty.pair Ty.bool Ty.unit) (!decide (x = x), PUnit.unit))
theorem nI (x : den (Ty.int IntKind.u8)) : dJ gX kH jJ fc 1000 (aG fc) (Env.of (bc jK (x, ()) 0) []) = kY x := by kernel_rfl
end Go.Proofs.Ytiaplhcifflibaa
namespace Go.Proofs.Ytiaplhcifflibaa
open Go Go.RowKit
noncomputable abbrev gW : bT := ⟨jK, jJ, fun _ => (false, ()), fun _ => True, true⟩
theorem qa : aP prog [] ff gW :=
 uX pV po pl (by kernel_rfl) (fun _ _ => trivial) (A := kH) (T := fun x => kY x.1) (fun x => nI x.1) fun O w0 x _ _ => by
  refine ⟨_, rfl, ?_⟩
  simp
end Go.Proofs.Ytiaplhcifflibaa
namespace Go.Proofs.Ytiaplhcifflibaa
open Go Go.RowKit
noncomputable abbrev f7 : ar := { T := cm, F := [(ff, gW)], n := (d7).ntmps }
noncomputable abbrev jf : Ann := { }
theorem nV (h_cmp_isNaN_byte : aP prog [] ff gW) : bN prog f7 := uG (a8 (bI bL bj) h_cmp_isNaN_byte)
theorem nJ : cV f7 = true := by kernel_rfl
noncomputable def jb (x : den (Ty.int IntKind.u8)) (y : den (Ty.int IntKind.u8)) : aI := aI.req True (aI.req True (aI.ite false (aI.ite false (aI.ret (K.val (Ty.pair af Ty.unit) (0, PUnit.unit))) (aI.ret (K.val (Ty.pair af Ty.unit) (-1, PUnit.unit)))) (aI.ite false (aI.ret (K.val (Ty.pair af Ty.unit) (1, PUnit.unit))) (aI.ite (decide (x < y)) (aI.ret (K.val (Ty.pair af Ty.unit) (-1, PUnit.unit))) (aI.ite (decide (y < x)) (aI.ret (K.val (Ty.pair af Ty.unit) (1, PUnit.unit))) (aI.ret (K.val (Ty.pair af Ty.unit) (0, PUnit.unit))))))))
theorem ml (x : den (Ty.int IntKind.u8)) (y : den (Ty.int IntKind.u8)) : dJ f7 jf iA d7 1000 (aG d7) (Env.of (bc iB (x, y, ()) 0) []) = jb x y := by kernel_rfl
noncomputable abbrev fE : ar := { T := cm, F := [], n := (bJ).ntmps }
noncomputable abbrev ma : Ann := { loops := [(4, { keep := [2, 3, 4, 5, 6, 7] })] }
theorem mg : bN prog fE := uG ((bI bL bj))
theorem kd : cV fE = true := by kernel_rfl
noncomputable def pq (a : den tId) (b : den tId) : aI := aI.loop (lp bJ 4) [(2, K.ptr 2 tId []), (3, K.ptr 3 tId []), (4, K.ptr 4 tId []), (5, K.ptr 5 tId []), (6, K.val af 0), (7, K.val af 31)] [(2, Bx.cell tId a), (3, Bx.cell tId b), (4, Bx.cell tId (zero tId)), (5, Bx.cell tId (zero tId))]
theorem su (a : den tId) (b : den tId) : dJ fE ma fX bJ 1000 (aG bJ) (Env.of (bc oV (a, b, ()) 0) []) = pq a b := by kernel_rfl
noncomputable def jn (v6 : den af) (v7 : den af) (b2 : den tId) (b3 : den tId) (b4 : den tId) (b5 : den tId) : Env := Env.of [(2, K.ptr 2 tId []), (3, K.ptr 3 tId []), (4, K.ptr 4 tId []), (5, K.ptr 5 tId []), (6, K.val af v6), (7, K.val af v7)] [(2, Bx.cell tId b2), (3, Bx.cell tId b3), (4, Bx.cell tId b4), (5, Bx.cell tId b5)]
noncomputable def rU (v6 : den af) (v7 : den af) (b2 : den tId) (b3 : den tId) (b4 : den tId) (b5 : den tId) : aI := aI.ite (decide (0 ≤ v7)) (aI.req (inB v7 ↑32) (aI.req (inB v7 ↑32) (aI.ite (decide (IntKind.wrap IntKind.i64 (IntKind.wrap IntKind.i64 (IntKind.wrap IntKind.i64 (el (Ty.int IntKind.u8) b3 v7) - IntKind.wrap IntKind.i64 (el (Ty.int IntKind.u8) b2 v7)) - v6) < 0)) (aI.req (inB v7 ↑32) (aI.loop (lp bJ 4) [(2, K.ptr 2 tId []), (3, K.ptr 3 tId []), (4, K.ptr 4 tId []), (5, K.ptr 5 tId []), (6, K.val af 1), (7, K.val af (IntKind.wrap IntKind.i64 (v7 - 1)))] [(2, Bx.cell tId b2), (3, Bx.cell tId b3), (4, Bx.cell tId b4), (5, Bx.cell tId (tI (Ty.int IntKind.u8) b5 v7 (IntKind.wrap IntKind.u8 (IntKind.wrap IntKind.i64 (IntKind.wrap IntKind.i64 (IntKind.wrap IntKind.i64 (IntKind.wrap IntKind.i64 (el (Ty.int IntKind.u8) b3 v7) - IntKind.wrap IntKind.i64 (el (Ty.int IntKind.u8) b2 v7)) - v6) + 256)))))])) (aI.req (inB v7 ↑32) (aI.loop (lp bJ 4) [(2, K.ptr 2 tId []), (3, K.ptr 3 tId []), (4, K.ptr 4 tId []), (5, K.ptr 5 tId []), (6, K.val af 0), (7, K.val af (IntKind.wrap IntKind.i64 (v7 - 1)))] [(2, Bx.cell tId b2), (3, Bx.cell tId b3), (4, Bx.cell tId b4), (5, Bx.cell tId (tI (Ty.int IntKind.u8) b5 v7 (IntKind.wrap IntKind.u8 (IntKind.wrap IntKind.i64 (IntKind.wrap IntKind.i64 (IntKind.wrap IntKind.i64 (el (Ty.int IntKind.u8) b3 v7) - IntKind.wrap IntKind.i64 (el (Ty.int IntKind.u8) b2 v7)) - v6)))))]))))) (aI.ret (K.val (Ty.pair tId Ty.unit) (b5, PUnit.unit)))
theorem jI (v6 : den af) (v7 : den af) (b2 : den tId) (b3 : den tId) (b4 : den tId) (b5 : den tId) : dJ fE ma fX bJ 1000 (lp bJ 4) (jn v6 v7 b2 b3 b4 b5) = rU v6 v7 b2 b3 b4 b5 := by kernel_rfl
end Go.Proofs.Ytiaplhcifflibaa
namespace Go.Proofs.Ytiaplhcifflibaa
open Go Go.RowKit
def fj (x y : Int) : Int := if x < y then -1 else if y < x then 1 else 0
noncomputable abbrev ga : bT := ⟨iB, iA, fun x => (fj x.1 x.2.1, ()), fun _ => True, true⟩
theorem gi : aP prog [] dZ ga :=
 uX (nV qa) nJ nK (by kernel_rfl) (fun _ _ => trivial) (A := jf) (T := fun x => jb x.1 x.2.1) (fun x => ml x.1 x.2.1) fun O w0 x _ _ => by
  refine ⟨trivial, trivial, fun h => (by cases h), fun _ => ⟨fun h => (by cases h), fun _ => ⟨fun h => ⟨_, rfl, ?_⟩, fun h => ⟨fun h' => ⟨_, rfl, ?_⟩, fun h' => ⟨_, rfl, ?_⟩⟩⟩⟩⟩
  ·simp [fj, of_decide_eq_true h]
  ·simp [fj, of_decide_eq_false h, of_decide_eq_true h']
  ·simp [fj, of_decide_eq_false h, of_decide_eq_false h']
end Go.Proofs.Ytiaplhcifflibaa
namespace Go.Proofs.Ytiaplhcifflibaa
open Go
def byt (l : List Int) : Prop := ∀ x ∈ l, 0 ≤ x ∧ x ≤ 255
theorem iT {x : Int} {l : List Int} : byt (x :: l) ↔ (0 ≤ x ∧ x ≤ 255) ∧ byt l := by
 simp [byt]
theorem od {x : den tId} (h : okT tId x) : x.length = 32 ∧ byt x :=
 ⟨h.1, fun y hy => by
  have : InK .u8 y := h.2 y hy
  have h1 : IntKind.min .u8 = 0 := by decide
  have h2 : IntKind.max .u8 = 255 := by decide
  unfold InK at this
  rw [h1, h2] at this
  exact this⟩
def vB : List Int → Int
 | [] => 0
 | x :: l => x * 256 ^ l.length + vB l
theorem nt (n : Nat) : (0 : Int) < 256 ^ n := Int.pow_pos (by decide)
theorem iR : ∀ {l : List Int}, byt l → 0 ≤ vB l ∧ vB l < 256 ^ l.length
 | [], _ => by simp [vB]
 | x :: l, h => by
  obtain ⟨hx, hl⟩ := iT.1 h
  obtain ⟨h1, h2⟩ := iR hl
  have hp := nt l.length
  have h3 : 0 ≤ x * 256 ^ l.length := Int.mul_nonneg hx.1 (Int.le_of_lt hp)
  have h4 : x * 256 ^ l.length ≤ 255 * 256 ^ l.length := Int.mul_le_mul_of_nonneg_right hx.2 (Int.le_of_lt hp)
  rw [List.length_cons, Int.pow_succ]
  simp only [vB]
  omega
def toB : Nat → Int → List Int
 | 0, _ => []
 | n + 1, v => v / 256 ^ n :: toB n (v % 256 ^ n)
theorem mU : ∀ (n : Nat) (v : Int), (toB n v).length = n
 | 0, _ => rfl
 | n + 1, v => by simp [toB, mU n]
theorem rL : ∀ {l : List Int}, byt l → toB l.length (vB l) = l
 | [], _ => rfl
 | x :: l, h => by
  obtain ⟨hx, hl⟩ := iT.1 h
  obtain ⟨h1, h2⟩ := iR hl
  have hp := nt l.length
  have e1 : (x * 256 ^ l.length + vB l) / 256 ^ l.length = x := by
   rw [Int.add_comm, Int.add_mul_ediv_right _ _ (by omega), Int.ediv_eq_zero_of_lt h1 h2]; omega
  have e2 : (x * 256 ^ l.length + vB l) % 256 ^ l.length = vB l := by
   rw [Int.add_comm, Int.add_mul_emod_self_right, Int.emod_eq_of_lt h1 h2]
  show (x * 256 ^ l.length + vB l) / 256 ^ l.length :: toB l.length ((x * 256 ^ l.length + vB l) % 256 ^ l.length) = x :: l
  rw [e1, e2, rL hl]
theorem pS : ∀ (n : Nat) {v : Int}, 0 ≤ v → v < 256 ^ n → byt (toB n v) ∧ vB (toB n v) = v
 | 0, v, h0, h1 => ⟨by simp [toB, byt], by simp at h1; simp [toB, vB]; omega⟩
 | n + 1, v, h0, h1 => by
  have hp := nt n
  obtain ⟨i1, i2⟩ := pS n (Int.emod_nonneg v (by omega)) (Int.emod_lt_of_pos v hp)
  rw [Int.pow_succ] at h1
  have hd : v / 256 ^ n ≤ 255 := by
   have : v / 256 ^ n < 256 := Int.ediv_lt_of_lt_mul hp (by rw [Int.mul_comm]; exact h1)
   omega
  refine ⟨iT.2 ⟨⟨Int.ediv_nonneg h0 (Int.le_of_lt hp), hd⟩, i1⟩, ?_⟩
  show v / 256 ^ n * 256 ^ (toB n _).length + vB (toB n _) = v
  rw [i2, mU]
  have := Int.mul_ediv_add_emod v (256 ^ n)
  rw [Int.mul_comm]
  exact this
theorem AH {a b : List Int} (hl : a.length = b.length) (ha : byt a) (hb : byt b) (h : vB a = vB b) : a = b := by
 rw [← rL ha, ← rL hb, h, hl]
def kR : List Int → List Int → Int
 | [], [] => 0
 | [], _ :: _ => -1
 | _ :: _, [] => 1
 | x :: xs, y :: ys => if fj x y = 0 then kR xs ys else fj x y
theorem sS {x y : Int} : fj x y = 0 ↔ x = y := by
 unfold fj; split
 ·omega
 ·split <;> omega
theorem wu : ∀ {a b : List Int}, a.length = b.length → byt a → byt b → kR a b = fj (vB a) (vB b)
 | [], [], _, _, _ => by simp [kR, vB, fj]
 | [], _ :: _, h, _, _ => by simp at h
 | _ :: _, [], h, _, _ => by simp at h
 | x :: xs, y :: ys, h, ha, hb => by
  obtain ⟨hx, ha⟩ := iT.1 ha
  obtain ⟨hy, hb⟩ := iT.1 hb
  have hl : xs.length = ys.length := by simpa using h
  have ih := wu hl ha hb
  obtain ⟨a1, a2⟩ := iR ha
  obtain ⟨b1, b2⟩ := iR hb
  rw [hl] at a2
  simp only [kR, vB]
  rw [hl]
  have hp := nt ys.length
  generalize (256 : Int) ^ ys.length = p at *
  split
  ·rename_i e
   rw [ih, sS.1 e]
   unfold fj
   split
   ·rw [if_pos (by omega)]
   ·split
    ·rw [if_neg (by omega), if_pos (by omega)]
    ·rw [if_neg (by omega), if_neg (by omega)]
  ·rename_i e
   have e : ¬ x = y := fun h => e (sS.2 h)
   rcases Int.lt_or_gt_of_ne e with hlt | hgt
   ·have : (x + 1) * p ≤ y * p := Int.mul_le_mul_of_nonneg_right hlt (Int.le_of_lt hp)
    rw [Int.add_mul, Int.one_mul] at this
    unfold fj
    rw [if_pos hlt, if_pos (by omega)]
   ·have : (y + 1) * p ≤ x * p := Int.mul_le_mul_of_nonneg_right hgt (Int.le_of_lt hp)
    rw [Int.add_mul, Int.one_mul] at this
    unfold fj
    rw [if_neg (by omega), if_pos hgt, if_neg (by omega), if_pos (by omega)]
def cq : Int := 256 ^ 32
def aO (a b : List Int) : List Int := toB 32 ((vB b - vB a) % cq)
theorem wv {l : List Int} {i : Nat} (h : i < l.length) : vB (l.drop i) = l[i] * 256 ^ (l.length - (i + 1)) + vB (l.drop (i + 1)) := by
 rw [List.drop_eq_getElem_cons h]
 simp [vB]
theorem pr {l : List Int} {i : Nat} (h : i < l.length) (y : Int) : (l.set i y).drop i = y :: l.drop (i + 1) := by
 rw [List.drop_eq_getElem_cons (by simpa using h), List.getElem_set_self, List.drop_set_of_lt (by omega)]
end Go.Proofs.Ytiaplhcifflibaa
namespace Go.Proofs.Ytiaplhcifflibaa
open Go Go.RowKit
noncomputable abbrev l6 : bT := ⟨oV, fX, fun x => (aO x.1 x.2.1, ()), fun _ => True, true⟩
theorem oI (O : Nat → Prop) (w0 : World) (a b z : List Int) (ha : a.length = 32) (hb : b.length = 32) (ba : byt a) (bb : byt b) : ∀ (i : Nat) (less : Int) (out : List Int), i ≤ 32 → out.length = 32 → (less = 0 ∨ less = 1) → byt (out.drop i) →
    vB (out.drop i) = vB (b.drop i) - vB (a.drop i) + less * 256 ^ (32 - i) →
    dP prog fE O w0 bJ (db prog O w0 fX fun y => y = (aO a b, ())) (lp bJ 4) (jn less ((i : Int) - 1) a b z out)
  | 0, less, out, _, ho, hless, hby, hv => qz mg kd (jI less _ a b z out) ⟨fun h => by
      have h : (0 : Int) ≤ ((0 : Nat) : Int) - 1 := of_decide_eq_true h
      omega, fun _ => ⟨_, rfl, by
        simp only [List.drop_zero] at hby hv
        have r := iR hby
        rw [ho] at r
        have e : (vB b - vB a) % cq = vB out := by
          have : vB b - vB a = vB out + (-less) * cq := by
            unfold cq
            rw [hv, Int.neg_mul]; omega
          rw [this, Int.add_mul_emod_self_right]
          exact Int.emod_eq_of_lt r.1 r.2
        have : aO a b = out := by
          unfold aO
          rw [e, ← ho, rL hby]
        rw [this]⟩⟩
  | i + 1, less, out, hi, ho, hless, hby, hv => qz mg kd (jI less _ a b z out) ⟨fun _ => by
      have ei : (((i + 1 : Nat) : Int) - 1) = ((i : Nat) : Int) := by omega
      rw [ei]
      have h1 : i < a.length := by omega
      have h2 : i < b.length := by omega
      have h3 : i < out.length := by omega
      rw [gt (e := .int .u8) h1, gt (e := .int .u8) h2]
      obtain ⟨a0, a1⟩ := ba _ (List.getElem_mem h1)
      obtain ⟨b0, b1⟩ := bb _ (List.getElem_mem h2)
      rw [e9 (n := a[i]) (by omega), e9 (n := b[i]) (by omega), e9 (n := b[i] - a[i]) (by omega), e9 (n := b[i] - a[i] - less) (by omega)]
      have hs : ∀ y : Int, tI (.int .u8) out (i : Nat) y = out.set i y := fun y => rfl
      have hp : (256 : Int) ^ (32 - i) = 256 * 256 ^ (31 - i) := by
        rw [show 32 - i = (31 - i) + 1 by omega, Int.pow_succ, Int.mul_comm]
      have hq : 32 - (i + 1) = 31 - i := by omega
      rw [hq] at hv
      have va := wv h1
      have vb := wv h2
      rw [ha, hq] at va
      rw [hb, hq] at vb
      have step : ∀ y less' : Int, 0 ≤ y ∧ y ≤ 255 → (less' = 0 ∨ less' = 1) → y = b[i] - a[i] - less + 256 * less' →
          dP prog fE O w0 bJ (db prog O w0 fX fun y => y = (aO a b, ())) (lp bJ 4) (jn less' ((i : Int) - 1) a b z (out.set i y)) := by
        intro y less' hy hl' e
        refine oI O w0 a b z ha hb ba bb i less' (out.set i y) (by omega) (by simpa using ho) hl' ?_ ?_
        · rw [pr h3]; exact iT.2 ⟨hy, hby⟩
        · rw [pr h3, va, vb, hp]
          simp only [vB, List.length_drop, ho, hq]
          rw [hv, e]
          generalize (256 : Int) ^ (31 - i) = p
          simp only [Int.sub_mul, Int.add_mul]
          have : 256 * less' * p = less' * (256 * p) := by rw [Int.mul_comm 256 less', Int.mul_assoc]
          omega
      refine ⟨dW (n := 32) (by omega), dW (n := 32) (by omega), fun h => ⟨dW (n := 32) (by omega), ?_⟩, fun h => ⟨dW (n := 32) (by omega), ?_⟩⟩
      · have h : b[i] - a[i] - less < 0 := of_decide_eq_true h
        rw [hs, e9 (n := b[i] - a[i] - less + 256) (by omega), uk (by omega), e9 (by omega)]
        exact step _ 1 (by omega) (.inr rfl) (by omega)
      · have h : ¬ b[i] - a[i] - less < 0 := of_decide_eq_false h
        rw [hs, uk (by omega), e9 (by omega)]
        exact step _ 0 (by omega) (.inl rfl) (by omega), fun h => by
      have h : ¬ (0 : Int) ≤ ((i + 1 : Nat) : Int) - 1 := of_decide_eq_false h
      omega⟩
theorem vf : aP prog [] i7 l6 :=
 uX mg kd uE (by kernel_rfl) (fun _ _ => trivial) (A := ma) (T := fun x => pq x.1 x.2.1) (fun x => su x.1 x.2.1) fun O w0 x hk _ => by
  obtain ⟨la, ba⟩ := od hk.1
  obtain ⟨lb, bb⟩ := od hk.2.1
  have hz : (zero tId : List Int).length = 32 := by simp [zero]
  exact oI O w0 x.1 x.2.1 (zero tId) la lb ba bb 32 0 (zero tId) (Nat.le_refl _) hz (.inl rfl) (by rw [List.drop_eq_nil_of_le (by omega)]; simp [byt])
   (by rw [List.drop_eq_nil_of_le (by omega), List.drop_eq_nil_of_le (by omega), List.drop_eq_nil_of_le (by omega)]; simp [vB])
end Go.Proofs.Ytiaplhcifflibaa
namespace Go.Proofs.Ytiaplhcifflibaa
open Go Go.RowKit
end Go.Proofs.Ytiaplhcifflibaa
namespace Go.Proofs.Ytiaplhcifflibaa
open Go Go.RowKit
noncomputable abbrev cC : ar := { T := cm, F := [(dZ, ga)], n := (aN).ntmps }
noncomputable abbrev eX : Ann := { loops := [(2, { keep := [0, 1, 9, 10, 11] })] }
theorem eP (h_cmp_Compare_byte : aP prog [] dZ ga) : bN prog cC := uG (a8 (bI bL bj) h_cmp_Compare_byte)
theorem ew : cV cC = true := by kernel_rfl
noncomputable def hK (s1 : den (Ty.slc (Ty.int IntKind.u8))) (s2 : den (Ty.slc (Ty.int IntKind.u8))) : aI := aI.loop (lp aN 2) [(0, K.val (Ty.slc (Ty.int IntKind.u8)) s1), (1, K.val (Ty.slc (Ty.int IntKind.u8)) s2), (9, K.val (Ty.slc (Ty.int IntKind.u8)) s1), (10, K.val af (lnx (Ty.int IntKind.u8) s1)), (11, K.val af 0)] []
theorem kT (s1 : den (Ty.slc (Ty.int IntKind.u8))) (s2 : den (Ty.slc (Ty.int IntKind.u8))) : dJ cC eX c4 aN 1000 (aG aN) (Env.of (bc gF (s1, s2, ()) 0) []) = hK s1 s2 := by kernel_rfl
noncomputable def gC (v0 : den (Ty.slc (Ty.int IntKind.u8))) (v1 : den (Ty.slc (Ty.int IntKind.u8))) (v9 : den (Ty.slc (Ty.int IntKind.u8))) (v10 : den af) (v11 : den af) : Env := Env.of [(0, K.val (Ty.slc (Ty.int IntKind.u8)) v0), (1, K.val (Ty.slc (Ty.int IntKind.u8)) v1), (9, K.val (Ty.slc (Ty.int IntKind.u8)) v9), (10, K.val af v10), (11, K.val af v11)] []
noncomputable def kb (v0 : den (Ty.slc (Ty.int IntKind.u8))) (v1 : den (Ty.slc (Ty.int IntKind.u8))) (v9 : den (Ty.slc (Ty.int IntKind.u8))) (v10 : den af) (v11 : den af) : aI := aI.ite (decide (v11 < v10)) (aI.req (inB v11 (lnx (Ty.int IntKind.u8) v9)) (aI.ite (decide (lnx (Ty.int IntKind.u8) v1 ≤ v11)) (aI.ret (K.val (Ty.pair af Ty.unit) (1, PUnit.unit))) (aI.req (inB v11 (lnx (Ty.int IntKind.u8) v1)) (aI.req True (aI.ite (!decide (fj (el (Ty.int IntKind.u8) v9 v11) (el (Ty.int IntKind.u8) v1 v11) = 0)) (aI.ret (K.val (Ty.pair af Ty.unit) (fj (el (Ty.int IntKind.u8) v9 v11) (el (Ty.int IntKind.u8) v1 v11), PUnit.unit))) (aI.loop (lp aN 2) [(0, K.val (Ty.slc (Ty.int IntKind.u8)) v0), (1, K.val (Ty.slc (Ty.int IntKind.u8)) v1), (9, K.val (Ty.slc (Ty.int IntKind.u8)) v9), (10, K.val af v10), (11, K.val af (IntKind.wrap IntKind.i64 (v11 + 1)))] [])))))) (aI.ite (decide (lnx (Ty.int IntKind.u8) v0 < lnx (Ty.int IntKind.u8) v1)) (aI.ret (K.val (Ty.pair af Ty.unit) (-1, PUnit.unit))) (aI.ret (K.val (Ty.pair af Ty.unit) (0, PUnit.unit))))
theorem eZ (v0 : den (Ty.slc (Ty.int IntKind.u8))) (v1 : den (Ty.slc (Ty.int IntKind.u8))) (v9 : den (Ty.slc (Ty.int IntKind.u8))) (v10 : den af) (v11 : den af) : dJ cC eX c4 aN 1000 (lp aN 2) (gC v0 v1 v9 v10 v11) = kb v0 v1 v9 v10 v11 := by kernel_rfl
end Go.Proofs.Ytiaplhcifflibaa
namespace Go.Proofs.Ytiaplhcifflibaa
open Go Go.RowKit
noncomputable abbrev eU : bT := ⟨gF, c4, fun x => (kR x.1 x.2.1, ()), fun _ => True, true⟩
theorem rV (a : List Int) : kR a [] = if a = [] then 0 else 1 := by
 cases a <;> rfl
def me (O : Nat → Prop) (w0 : World) (a b : List Int) (hm : a.length ≤ maxLen) :=
 PLift.up <| wU (P := prog) (D := cC) (fn := aN) (rs := c4) (O := O) (w0 := w0) (todo := lp aN 2) (σ := Unit) a.length
  (fun i _ => gC a b a (lnx (.int .u8) a) i) (fun i _ => i ≤ b.length) (fun i _ y => y = (kR (a.drop i) (b.drop i), ()))
  (fun i _ hi hb ih => qz (eP gi) ew (eZ a b a _ _) ⟨fun _ => by
   refine ⟨dW hi, fun h => ⟨_, rfl, ?_⟩, fun h => ?_⟩
   ·have h : (b.length : Int) ≤ (i : Int) := of_decide_eq_true h
    rw [List.drop_eq_nil_of_le (show b.length ≤ i by omega), rV, if_neg (fun e => by have := congrArg List.length e; simp at this; omega)]
   ·have h : ¬ (b.length : Int) ≤ (i : Int) := of_decide_eq_false h
    have hi' : i < b.length := by omega
    rw [gt (e := .int .u8) hi, gt (e := .int .u8) hi', mA hi hm]
    refine ⟨dW hi', trivial, fun h => ⟨_, rfl, ?_⟩, fun h => dP.mono (fun y hy => ?_) (ih () (by omega))⟩
    ·have h : ¬ fj a[i] b[i] = 0 := by simpa using h
     rw [List.drop_eq_getElem_cons hi, List.drop_eq_getElem_cons hi']
     simp only [kR, if_neg h]
    ·have h : fj a[i] b[i] = 0 := by simpa using h
     rw [hy, List.drop_eq_getElem_cons hi, List.drop_eq_getElem_cons hi']
     simp only [kR, if_pos h], fun h => by
   have h : ¬ (i : Int) < (a.length : Int) := of_decide_eq_false h
   omega⟩)
  (fun s hb => qz (eP gi) ew (eZ a b a _ _) ⟨fun h => by
   have h : (a.length : Int) < (a.length : Int) := of_decide_eq_true h
   omega, fun _ => ⟨fun h => ⟨_, rfl, by
    have h : (a.length : Int) < (b.length : Int) := of_decide_eq_true h
    rw [List.drop_eq_nil_of_le (Nat.le_refl _), List.drop_eq_getElem_cons (show a.length < b.length by omega)]
    rfl⟩, fun h => ⟨_, rfl, by
    have h : ¬ (a.length : Int) < (b.length : Int) := of_decide_eq_false h
    rw [List.drop_eq_nil_of_le (Nat.le_refl _), List.drop_eq_nil_of_le (show b.length ≤ a.length by omega)]
    rfl⟩⟩⟩)
theorem my : aP prog [] de eU :=
 uX (eP gi) ew lU (by kernel_rfl) (fun _ _ => trivial) (A := eX) (T := fun x => hK x.1 x.2.1) (fun x => kT x.1 x.2.1) fun O w0 x hk _ =>
  (me O w0 x.1 x.2.1 hk.1.1).down 0 () (Nat.zero_le _) (Nat.zero_le _)
end Go.Proofs.Ytiaplhcifflibaa
namespace Go.Proofs.Ytiaplhcifflibaa
open Go Go.RowKit
def i5 (a b : List Int) : Int := fj (vB a) (vB b)
end Go.Proofs.Ytiaplhcifflibaa
namespace Go.Proofs.Ytiaplhcifflibaa
open Go Go.RowKit
noncomputable abbrev hY : ar := { T := cm, F := [(de, eU)], n := (fQ).ntmps }
noncomputable abbrev lC : Ann := { frz := [(1, [2, 3])] }
theorem qN (h_slices_Compare_byte : aP prog [] de eU) : bN prog hY := uG (a8 (bI bL bj) h_slices_Compare_byte)
theorem p5 : cV hY = true := by kernel_rfl
noncomputable def lR (a : den tId) (b : den tId) : aI := aI.req (bH 0 ↑32 ↑32) (aI.req (bH 0 ↑32 ↑32) (aI.req True (aI.ret (K.val (Ty.pair af Ty.unit) (kR (gR (Ty.int IntKind.u8) a 0 ↑32) (gR (Ty.int IntKind.u8) b 0 ↑32), PUnit.unit)))))
theorem ol (a : den tId) (b : den tId) : dJ hY lC k7 fQ 1000 (aG fQ) (Env.of (bc kV (a, b, ()) 0) []) = lR a b := by kernel_rfl
end Go.Proofs.Ytiaplhcifflibaa
namespace Go.Proofs.Ytiaplhcifflibaa
open Go Go.RowKit
noncomputable abbrev il : bT := ⟨kV, k7, fun x => (i5 x.1 x.2.1, ()), fun _ => True, true⟩
theorem rO : aP prog [] fL il :=
 uX (qN my) p5 qf (by kernel_rfl) (fun _ _ => trivial) (A := lC) (T := fun x => lR x.1 x.2.1) (fun x => ol x.1 x.2.1) fun O w0 x hk _ => by
  obtain ⟨la, ba⟩ := od hk.1
  obtain ⟨lb, bb⟩ := od hk.2.1
  have hc : ∀ l : List Int, l.length = 32 → gR (.int .u8) l 0 32 = l := fun l hl => by
   show (l.take 32).drop 0 = l
   rw [List.drop_zero, ← hl, List.take_length]
  refine ⟨⟨Int.le_refl _, by decide, Int.le_refl _⟩, ⟨Int.le_refl _, by decide, Int.le_refl _⟩, trivial, _, rfl, ?_⟩
  have e := wu (a := x.1) (b := x.2.1) (by rw [la, lb]) ba bb
  show (kR (gR (.int .u8) x.1 0 32) (gR (.int .u8) x.2.1 0 32), PUnit.unit) = (i5 x.1 x.2.1, ())
  rw [hc x.1 la, hc x.2.1 lb, e]
  rfl
theorem qD {a b : List Int} : i5 a b < 0 ↔ vB a < vB b := by
 unfold i5 fj; split
 ·exact ⟨fun _ => by omega, fun _ => by omega⟩
 ·split <;> exact ⟨fun _ => by omega, fun _ => by omega⟩
end Go.Proofs.Ytiaplhcifflibaa
namespace Go.Proofs.Ytiaplhcifflibaa
open Go Go.RowKit
end Go.Proofs.Ytiaplhcifflibaa
namespace Go.Proofs.Ytiaplhcifflibaa
open Go Go.RowKit
theorem Ap {x y W : Int} (hx : 0 ≤ x ∧ x < W) (hy : 0 ≤ y ∧ y < W) : (y - x) % W = if x ≤ y then y - x else y - x + W := by
 split
 ·exact Int.emod_eq_of_lt (by omega) (by omega)
 ·rw [← Int.add_emod_right]
  exact Int.emod_eq_of_lt (by omega) (by omega)
theorem lG {a : List Int} (ha : a.length = 32 ∧ byt a) : 0 ≤ vB a ∧ vB a < cq := by
 have := iR ha.2; rw [ha.1] at this; exact this
theorem AG {a b : List Int} (ha : a.length = 32 ∧ byt a) (hb : b.length = 32 ∧ byt b) : vB (aO a b) = if vB a ≤ vB b then vB b - vB a else vB b - vB a + cq := by
 have ra := lG ha
 have rb := lG hb
 rw [← Ap ra rb]
 exact (pS 32 (Int.emod_nonneg _ (by decide)) (Int.emod_lt_of_pos _ (by decide))).2
end Go.Proofs.Ytiaplhcifflibaa
namespace Go.Proofs.Ytiaplhcifflibaa
open Go Go.RowKit
noncomputable abbrev mM : Fx := { fn := jy, ann := { } }
noncomputable abbrev nA : bz := { D := { T := cm, F := [(i7, l6), (fL, il)], R := [], ovl := [] }, inl := [] }
noncomputable abbrev tf : cY := .data mt
theorem tc (h_ident_Far : aP prog [] i7 l6) (h_ident_Compare : aP prog [] fL il) : XOk prog nA := xok (a8 (a8 (bI bL bj) h_ident_Compare) h_ident_Far) (by kernel_rfl) cj cI cJ
noncomputable def nB (a : den ab) (b : den ab) (id : den (Ty.ref tId)) : ae := ae.req True (ae.req True (ae.req True (ae.ret (K.val (Ty.pair af Ty.unit) (i5 (aO id (Prod.fst (Prod.snd a))) (aO id (Prod.fst (Prod.snd b))), PUnit.unit)))))
theorem pY (a : den ab) (b : den ab) (id : den (Ty.ref tId)) : ay nA tf 5000 [] mM (aG jy) (Env.of (bc mI (a, b, id, ()) 0) []) = nB a b id := by kernel_rfl
noncomputable abbrev lx : Fx := { fn := iO, ann := { } }
noncomputable abbrev mG : bz := { D := { T := cm, F := [], R := [], ovl := [] }, inl := [] }
noncomputable abbrev sA : cY := .data lf
theorem so : XOk prog mG := xok ((bI bL bj)) (by kernel_rfl) cj cI cJ
noncomputable def mH (x : den ab) (m : den (Ty.ref ab)) : ae := ae.ret (K.val (Ty.pair Ty.bool Ty.unit) (bif decide (Prod.fst x = Prod.fst m) then true else eqb tId (Prod.fst (Prod.snd x)) (Prod.fst (Prod.snd m)), PUnit.unit))
theorem pn (x : den ab) (m : den (Ty.ref ab)) : ay mG sA 5000 [] lx (aG iO) (Env.of (bc lF (x, m, ()) 0) []) = mH x m := by kernel_rfl
noncomputable abbrev kA : Fx := { fn := im, ann := { } }
noncomputable abbrev ll : bz := { D := { T := cm, F := [], R := [], ovl := [] }, inl := [] }
noncomputable abbrev qL : cY := .data kE
theorem rH : XOk prog ll := xok ((bI bL bj)) (by kernel_rfl) cj cI cJ
noncomputable def lv (m : den ab) (no : den (Ty.ref af)) : ae := ae.ret (K.val (Ty.pair Ty.bool Ty.unit) (decide (Prod.fst m = no), PUnit.unit))
theorem nU (m : den ab) (no : den (Ty.ref af)) : ay ll qL 5000 [] kA (aG im) (Env.of (bc kF (m, no, ()) 0) []) = lv m no := by kernel_rfl
noncomputable abbrev bg : Fx := { fn := aV, ann := { loops := [(2, { keep := [0, 1, 7, 8] })] } }
noncomputable abbrev cD : bz := { D := { T := cm, F := [], R := [], ovl := [] }, inl := [] }
noncomputable abbrev fT : cY := .data dl
theorem dt : XOk prog cD := xok ((bI bL bj)) (by kernel_rfl) cj cI cJ
noncomputable def fS (s : den (Ty.slc ab)) (f : den (Ty.fn (Ty.pair ab Ty.unit) (Ty.pair Ty.bool Ty.unit))) : ae := ae.loop [] bg (lp aV 2) [(0, K.val (Ty.slc ab) s), (1, K.val (Ty.fn (Ty.pair ab Ty.unit) (Ty.pair Ty.bool Ty.unit)) f), (7, K.val af (lnx ab s)), (8, K.val af 0)] []
theorem iQ (s : den (Ty.slc ab)) (f : den (Ty.fn (Ty.pair ab Ty.unit) (Ty.pair Ty.bool Ty.unit))) : ay cD fT 5000 [] bg (aG aV) (Env.of (bc fm (s, f, ()) 0) []) = fS s f := by kernel_rfl
noncomputable def fa (v0 : den (Ty.slc ab)) (v1 : den (Ty.fn (Ty.pair ab Ty.unit) (Ty.pair Ty.bool Ty.unit))) (v7 : den af) (v8 : den af) : Env := Env.of [(0, K.val (Ty.slc ab) v0), (1, K.val (Ty.fn (Ty.pair ab Ty.unit) (Ty.pair Ty.bool Ty.unit)) v1), (7, K.val af v7), (8, K.val af v8)] []
noncomputable def iP (v0 : den (Ty.slc ab)) (v1 : den (Ty.fn (Ty.pair ab Ty.unit) (Ty.pair Ty.bool Ty.unit))) (v7 : den af) (v8 : den af) : ae := ae.ite (decide (v8 < v7)) (ae.req (inB v8 (lnx ab v0)) (ae.req (nm (Ty.pair ab Ty.unit) (Ty.pair Ty.bool Ty.unit) v1) (ae.ite (Prod.fst (qP (Ty.pair ab Ty.unit) (Ty.pair Ty.bool Ty.unit) v1 (el ab v0 v8, PUnit.unit))) (ae.ret (K.val (Ty.pair af Ty.unit) (v8, PUnit.unit))) (ae.loop [] bg (lp aV 2) [(0, K.val (Ty.slc ab) v0), (1, K.val (Ty.fn (Ty.pair ab Ty.unit) (Ty.pair Ty.bool Ty.unit)) v1), (7, K.val af v7), (8, K.val af (IntKind.wrap IntKind.i64 (v8 + 1)))] [])))) (ae.ret (K.val (Ty.pair af Ty.unit) (-1, PUnit.unit)))
theorem dN (v0 : den (Ty.slc ab)) (v1 : den (Ty.fn (Ty.pair ab Ty.unit) (Ty.pair Ty.bool Ty.unit))) (v7 : den af) (v8 : den af) : ay cD fT 5000 [] bg (lp aV 2) (fa v0 v1 v7 v8) = iP v0 v1 v7 v8 := by kernel_rfl
noncomputable abbrev a6 : Fx := { fn := aU, ann := { loops := [(5, { keep := [0, 1, 4, 5, 6] })] } }
noncomputable abbrev cN : bz := { D := { T := cm, F := [], R := [], ovl := [] }, inl := [] }
noncomputable abbrev gD : cY := .data dI
theorem dO : XOk prog cN := xok ((bI bL bj)) (by kernel_rfl) cj cI cJ
noncomputable def gy (x : den (Ty.slc ab)) (cmp : den (Ty.fn (Ty.pair ab (Ty.pair ab Ty.unit)) (Ty.pair af Ty.unit))) : ae := ae.ite (decide (lnx ab x < 1)) (ae.bad (100000 + 1000 * 0 + 0)) (ae.req (inB 0 (lnx ab x)) (ae.loop [] a6 (lp aU 5) [(0, K.val (Ty.slc ab) x), (1, K.val (Ty.fn (Ty.pair ab (Ty.pair ab Ty.unit)) (Ty.pair af Ty.unit)) cmp), (4, K.ptr 0 ab []), (5, K.ptr (0 + 1) ab []), (6, K.val af 1)] [(0, Bx.cell ab (zero ab)), (0 + 1, Bx.cell ab (el ab x 0))]))
theorem jo (x : den (Ty.slc ab)) (cmp : den (Ty.fn (Ty.pair ab (Ty.pair ab Ty.unit)) (Ty.pair af Ty.unit))) : ay cN gD 5000 [] a6 (aG aU) (Env.of (bc gg (x, cmp, ()) 0) []) = gy x cmp := by kernel_rfl
noncomputable def fO (v0 : den (Ty.slc ab)) (v1 : den (Ty.fn (Ty.pair ab (Ty.pair ab Ty.unit)) (Ty.pair af Ty.unit))) (v6 : den af) (b0 : den ab) (b1 : den ab) : Env := Env.of [(0, K.val (Ty.slc ab) v0), (1, K.val (Ty.fn (Ty.pair ab (Ty.pair ab Ty.unit)) (Ty.pair af Ty.unit)) v1), (4, K.ptr 0 ab []), (5, K.ptr (0 + 1) ab []), (6, K.val af v6)] [(0, Bx.cell ab b0), (1, Bx.cell ab b1)]
noncomputable def jG (v0 : den (Ty.slc ab)) (v1 : den (Ty.fn (Ty.pair ab (Ty.pair ab Ty.unit)) (Ty.pair af Ty.unit))) (v6 : den af) (b0 : den ab) (b1 : den ab) : ae := ae.ite (decide (v6 < lnx ab v0)) (ae.req (inB v6 (lnx ab v0)) (ae.req (nm (Ty.pair ab (Ty.pair ab Ty.unit)) (Ty.pair af Ty.unit) v1) (ae.ite (decide (Prod.fst (qP (Ty.pair ab (Ty.pair ab Ty.unit)) (Ty.pair af Ty.unit) v1 (el ab v0 v6, b1, PUnit.unit)) < 0)) (ae.req (inB v6 (lnx ab v0)) (ae.loop [] a6 (lp aU 5) [(0, K.val (Ty.slc ab) v0), (1, K.val (Ty.fn (Ty.pair ab (Ty.pair ab Ty.unit)) (Ty.pair af Ty.unit)) v1), (4, K.ptr 0 ab []), (5, K.ptr (0 + 1) ab []), (6, K.val af (IntKind.wrap IntKind.i64 (v6 + 1)))] [(0, Bx.cell ab b0), (0 + 1, Bx.cell ab (el ab v0 v6))])) (ae.loop [] a6 (lp aU 5) [(0, K.val (Ty.slc ab) v0), (1, K.val (Ty.fn (Ty.pair ab (Ty.pair ab Ty.unit)) (Ty.pair af Ty.unit)) v1), (4, K.ptr 0 ab []), (5, K.ptr (0 + 1) ab []), (6, K.val af (IntKind.wrap IntKind.i64 (v6 + 1)))] [(0, Bx.cell ab b0), (0 + 1, Bx.cell ab b1)])))) (ae.ret (K.val (Ty.pair ab Ty.unit) (b1, PUnit.unit)))
theorem eF (v0 : den (Ty.slc ab)) (v1 : den (Ty.fn (Ty.pair ab (Ty.pair ab Ty.unit)) (Ty.pair af Ty.unit))) (v6 : den af) (b0 : den ab) (b1 : den ab) : ay cN gD 5000 [] a6 (lp aU 5) (fO v0 v1 v6 b0 b1) = jG v0 v1 v6 b0 b1 := by kernel_rfl
noncomputable abbrev qB : Fx := { fn := oo, ann := { } }
noncomputable abbrev sV : bz := { D := { T := cm, F := [], R := [], ovl := [] }, inl := [] }
noncomputable abbrev xT : cY := .data qS
theorem xY : XOk prog sV := xok ((bI bL bj)) (by kernel_rfl) cj cI cJ
noncomputable def sW (l : den (Ty.slc ab)) : ae := ae.req (bH 0 (l8 (lnx ab l) 18) (lnx ab l)) (ae.ret (K.val (Ty.pair (Ty.slc ab) Ty.unit) (gR ab l 0 (l8 (lnx ab l) 18), PUnit.unit)))
theorem ur (l : den (Ty.slc ab)) : ay sV xT 5000 [] qB (aG oo) (Env.of (bc qY (l, ()) 0) []) = sW l := by kernel_rfl
end Go.Proofs.Ytiaplhcifflibaa
namespace Go.Proofs.Ytiaplhcifflibaa
open Go Go.RowKit
abbrev Mem := den ab
abbrev jl (a : List Int) : Prop := a.length = 32 ∧ byt a
theorem wx {x : den tId} (h : okT tId x) : jl x := od h
def tv (a b : List Int) : List Int := toB 32 ((vB a + vB b) % cq)
def pw0 : List Int := List.replicate 31 0 ++ [1]
theorem Az : vB pw0 = 1 := by kernel_rfl
def eY (x m : Mem) : Bool := bif decide (x.1 = m.1) then true else eqb tId x.2.1 m.2.1
noncomputable abbrev gv : bT := ⟨lF, lf, fun x => (eY x.1 x.2.1, ()), fun _ => True, true⟩
theorem ss : aP prog [] gl gv :=
 eH (S := gv) so (fx := lx) qK (by kernel_rfl) (fun _ _ => trivial) (T := fun x => mH x.1 x.2.1) (fun x => pn x.1 x.2.1) fun O w0 x _ _ => ⟨_, rfl, rfl⟩
noncomputable abbrev fN : bT := ⟨kF, kE, fun x => (decide (x.1.1 = x.2.1), ()), fun _ => True, true⟩
theorem rh : aP prog [] fR fN :=
 eH (S := fN) rH (fx := kA) pZ (by kernel_rfl) (fun _ _ => trivial) (T := fun x => lv x.1 x.2.1) (fun x => nU x.1 x.2.1) fun O w0 x _ _ => ⟨_, rfl, rfl⟩
noncomputable abbrev gM : bT := ⟨mI, mt, fun x => (i5 (aO x.2.2.1 x.1.2.1) (aO x.2.2.1 x.2.1.2.1), ()), fun _ => True, true⟩
theorem tq : aP prog [] gT gM :=
 eH (S := gM) (tc vf rO) (fx := mM) rR (by kernel_rfl) (fun _ _ => trivial) (T := fun x => nB x.1 x.2.1 x.2.2.1) (fun x => pY x.1 x.2.1 x.2.2.1) fun O w0 x _ _ => ⟨trivial, trivial, trivial, _, rfl, rfl⟩
def prM (f : den (.fn (.pair ab .unit) (.pair .bool .unit))) (m : Mem) : Bool := (qP (.pair ab .unit) (.pair .bool .unit) f (m, ())).1
def ixP (p : Mem → Bool) : List Mem → Int → Int
 | [], _ => -1
 | x :: l, i => bif p x then i else ixP p l (i + 1)
theorem lI (p : Mem → Bool) : ∀ (l : List Mem) (i : Int), 0 ≤ i → (l.any p = true → i ≤ ixP p l i ∧ ixP p l i < i + l.length) ∧ (l.any p = false → ixP p l i = -1)
 | [], i, _ => ⟨fun h => (by cases h), fun _ => rfl⟩
 | x :: l, i, hi => by
  obtain ⟨h1, h2⟩ := lI p l (i + 1) (by omega)
  rw [List.any_cons, List.length_cons]
  show (_ → _ ≤ (bif p x then i else ixP p l (i + 1)) ∧ (bif p x then i else ixP p l (i + 1)) < _) ∧ (_ → (bif p x then i else ixP p l (i + 1)) = -1)
  cases p x with
  | true => exact ⟨fun _ => ⟨Int.le_refl _, by show i < _; omega⟩, fun h => (by cases h)⟩
  | false =>
   refine ⟨fun h => ?_, fun h => h2 h⟩
   have := h1 h
   exact ⟨by show i ≤ ixP p l (i + 1); omega, by show ixP p l (i + 1) < _; omega⟩
theorem zL (p : Mem → Bool) (l : List Mem) : decide (0 ≤ ixP p l 0) = l.any p := by
 obtain ⟨h1, h2⟩ := lI p l 0 (Int.le_refl _)
 cases h : l.any p with
 | true => exact decide_eq_true (h1 h).1
 | false => rw [h2 h]; rfl
theorem xV (p : Mem → Bool) : ∀ (l : List Mem) (i : Int), l.any p = true → ∃ k : Nat, ∃ h : k < l.length, ixP p l i = i + (k : Int) ∧ p l[k] = true
 | [], _, h => by cases h
 | x :: l, i, h => by
  show ∃ k : Nat, ∃ h : k < l.length + 1, (bif p x then i else ixP p l (i + 1)) = i + (k : Int) ∧ p (x :: l)[k] = true
  cases hx : p x with
  | true => exact ⟨0, by omega, by simp, hx⟩
  | false =>
   rw [List.any_cons, hx, Bool.false_or] at h
   obtain ⟨k, hk, h1, h2⟩ := xV p l (i + 1) h
   exact ⟨k + 1, by omega, by show ixP p l (i + 1) = _; rw [h1]; omega, h2⟩
noncomputable abbrev bl : bT := ⟨fm, dl, fun x => (ixP (prM x.2.1) x.1 0, ()), fun x => nm (.pair ab .unit) (.pair .bool .unit) x.2.1, false⟩
abbrev GIx (O : Nat → Prop) (w0 : World) (y : Int) := bY prog cD (Cx.base O w0) (db prog O w0 dl fun z => z = (y, ()))
def tX (O : Nat → Prop) (w0 : World) (xs : List Mem) (f : den (.fn (.pair ab .unit) (.pair .bool .unit))) (hf : nm (.pair ab .unit) (.pair .bool .unit) f) (hm : xs.length ≤ maxLen) (y : Int) (hy : y = ixP (prM f) xs 0) :=
 PLift.up <| i9 (σ := Unit) xs.length (fun i _ => ixP (prM f) (xs.drop i) (i : Nat) = y)
  (fun i _ => GIx O w0 y [] bg (lp aV 2) (fa xs f (lnx ab xs) (i : Nat)))
  (fun i _ hi hs ih => dn dt (dN xs f _ _) (by
   rw [List.drop_eq_getElem_cons hi] at hs
   have hs : (bif prM f xs[i] then ((i : Nat) : Int) else ixP (prM f) (xs.drop (i + 1)) (((i : Nat) : Int) + 1)) = y := hs
   refine ⟨fun _ => ⟨dW hi, hf, ?_⟩, fun hc => absurd hi (by rw [oX] at hc; exact of_decide_eq_false hc)⟩
   rw [gt hi, mA hi hm]
   refine ⟨fun hc => ⟨_, rfl, ?_⟩, fun hc => ih () ?_⟩
   ·have hc : prM f xs[i] = true := hc
    rw [hc] at hs
    rw [← hs]
    rfl
   ·have hc : prM f xs[i] = false := hc
    rw [hc] at hs
    exact hs))
  (fun _ hs => dn dt (dN xs f _ _) (by
   refine ⟨fun hc => absurd (of_decide_eq_true hc) (Int.lt_irrefl _), fun _ => ⟨_, rfl, ?_⟩⟩
   rw [List.drop_length] at hs
   rw [← hs]
   rfl))
theorem fU : aP prog [] bn bl :=
 eH (S := bl) dt (fx := bg) jz (by kernel_rfl) (fun h => by cases h) (T := fun x => fS x.1 x.2.1) (fun x => iQ x.1 x.2.1) fun O w0 x hk hp =>
  (tX O w0 x.1 x.2.1 hp hk.1.1 _ rfl).down 0 () (Nat.zero_le _) rfl
def mX (k : Mem → Mem → Int) : Mem → List Mem → Mem
 | b, [] => b
 | b, x :: l => mX k (if k x b < 0 then x else b) l
def cmM (f : den (.fn (.pair ab (.pair ab .unit)) (.pair af .unit))) (x y : Mem) : Int := (qP (.pair ab (.pair ab .unit)) (.pair af .unit) f (x, y, ())).1
def tG (k : Mem → Mem → Int) : List Mem → Mem
 | [] => zero ab
 | b :: l => mX k b l
noncomputable abbrev cQ : bT := ⟨gg, dI, fun x => (tG (cmM x.2.1) x.1, ()), fun x => nm (.pair ab (.pair ab .unit)) (.pair af .unit) x.2.1 ∧ 0 < List.length x.1, false⟩
abbrev GMi (O : Nat → Prop) (w0 : World) (y : Mem) := bY prog cN (Cx.base O w0) (db prog O w0 dI fun z => z = (y, ()))
def xi (O : Nat → Prop) (w0 : World) (xs : List Mem) (f : den (.fn (.pair ab (.pair ab .unit)) (.pair af .unit))) (hf : nm (.pair ab (.pair ab .unit)) (.pair af .unit) f) (hm : xs.length ≤ maxLen) (z y : Mem) :=
 PLift.up <| i9 (σ := Mem) xs.length (fun i b => mX (cmM f) b (xs.drop i) = y)
  (fun i b => GMi O w0 y [] a6 (lp aU 5) (fO xs f (i : Nat) z b))
  (fun i b hi hs ih => dn dO (eF xs f _ z b) (by
   rw [List.drop_eq_getElem_cons hi] at hs
   have hs : mX (cmM f) (if cmM f xs[i] b < 0 then xs[i] else b) (xs.drop (i + 1)) = y := hs
   refine ⟨fun _ => ⟨dW hi, hf, ?_⟩, fun hc => absurd hi (by rw [oX] at hc; exact of_decide_eq_false hc)⟩
   rw [gt hi, mA hi hm]
   refine ⟨fun hc => ⟨dW hi, ih _ ?_⟩, fun hc => ih _ ?_⟩
   ·have hc : cmM f xs[i] b < 0 := of_decide_eq_true hc
    rw [if_pos hc] at hs
    exact hs
   ·have hc : ¬ cmM f xs[i] b < 0 := of_decide_eq_false hc
    rw [if_neg hc] at hs
    exact hs))
  (fun b hs => dn dO (eF xs f _ z b) (by
   refine ⟨fun hc => absurd (of_decide_eq_true hc) (Int.lt_irrefl _), fun _ => ⟨_, rfl, ?_⟩⟩
   rw [List.drop_length] at hs
   rw [← hs]
   rfl))
theorem k9 : aP prog [] cO cQ :=
 eH (S := cQ) dO (fx := a6) kB (by kernel_rfl) (fun h => by cases h) (T := fun x => gy x.1 x.2.1) (fun x => jo x.1 x.2.1) fun O w0 x hk hp => by
  obtain ⟨xs, f, ⟨⟩⟩ := x
  have hm : List.length xs ≤ maxLen := hk.1.1
  have h0 : 0 < List.length xs := hp.2
  refine ⟨fun hc => ?_, fun _ => ⟨dW (i := 0) h0, ?_⟩⟩
  ·exfalso
   have hc : ((xs.length : Nat) : Int) < 1 := of_decide_eq_true hc
   omega
  ·rw [show (0 : Int) = ((0 : Nat) : Int) from rfl, gt h0]
   refine (xi O w0 xs f hp.1 hm (zero ab) (tG (cmM f) xs)).down 1 _ h0 ?_
   cases xs with
   | nil => cases h0
   | cons b l => rfl
theorem r6 (x y : Mem) : eqb ab x y = decide (x = y) := by
 have := mq (t := ab) rfl x y
 cases h : eqb ab x y
 ·have : ¬ x = y := fun e => by rw [this.2 e] at h; cases h
  simp [this]
 ·simp [this.1 h]
noncomputable abbrev lK : bT := ⟨qY, qS, fun x => (List.take 18 x.1, ()), fun _ => True, true⟩
theorem xx : aP prog [] lu lK :=
 eH (S := lK) xY (fx := qB) wD (by kernel_rfl) (fun _ _ => trivial) (T := fun x => sW x.1) (fun x => ur x.1) fun O w0 x _ _ => by
  obtain ⟨l, ⟨⟩⟩ := x
  have hc := AT (e := ab) l 18
  refine ⟨hc.2, _, rfl, ?_⟩
  show (gR ab l 0 (l8 (lnx ab l) ((18 : Nat) : Int)), ()) = (List.take 18 l, ())
  rw [hc.1]
end Go.Proofs.Ytiaplhcifflibaa
namespace Go.Proofs.Ytiaplhcifflibaa
def rky (W a p : Int) : Int := if a ≤ p then p - a else p - a + W
def rup (W a : Int) : Int := if a + 1 = W then 0 else a + 1
theorem p4 {W a p : Int} (ha : 0 ≤ a ∧ a < W) (hp : 0 ≤ p ∧ p < W) : 0 ≤ rky W a p ∧ rky W a p < W := by unfold rky; split <;> omega
theorem tL {W a p q : Int} (_ : 0 ≤ a ∧ a < W) (hp : 0 ≤ p ∧ p < W) (hq : 0 ≤ q ∧ q < W) (h : rky W a p = rky W a q) : p = q := by unfold rky at h; split at h <;> split at h <;> omega
theorem Ao {W a : Int} : rky W a a = 0 := by unfold rky; rw [if_pos (Int.le_refl _)]; omega
theorem uQ {W a m p : Int} (ha : 0 ≤ a ∧ a < W) (hm : 0 ≤ m ∧ m < W) (hp : 0 ≤ p ∧ p < W) : rky W m p = if rky W a m ≤ rky W a p then rky W a p - rky W a m else rky W a p - rky W a m + W := by
 unfold rky
 split <;> split <;> split <;> split <;> omega
theorem wF {W m p : Int} (hm : 0 ≤ m ∧ m < W) (hp : 0 ≤ p ∧ p < W) : rky W (rup W m) p = if p = m then W - 1 else rky W m p - 1 := by
 unfold rky rup
 split <;> split <;> split <;> (try split) <;> omega
theorem s5 {W m : Int} (hm : 0 ≤ m ∧ m < W) : 0 ≤ rup W m ∧ rup W m < W := by unfold rup; split <;> omega
section
variable {M : Type} {pos : M → Int} {W : Int}
structure uK (pos : M → Int) (W : Int) (l : List M) : Prop where
 in' : ∀ m ∈ l, 0 ≤ pos m ∧ pos m < W
 inj : ∀ x ∈ l, ∀ y ∈ l, pos x = pos y → x = y
def dQ (pos : M → Int) (W a : Int) (l : List M) (m : M) : Prop := m ∈ l ∧ ∀ x ∈ l, rky W a (pos m) ≤ rky W a (pos x)
theorem dQ.uniq {l : List M} (h : uK pos W l) {a : Int} (ha : 0 ≤ a ∧ a < W) {m n : M} (hm : dQ pos W a l m) (hn : dQ pos W a l n) : m = n :=
 h.inj m hm.1 n hn.1 (tL ha (h.in' m hm.1) (h.in' n hn.1) (Int.le_antisymm (hm.2 n hn.1) (hn.2 m hm.1)))
theorem dQ.mem {l : List M} {a : Int} {m : M} (h : dQ pos W a l m) : m ∈ l := h.1
theorem dQ.sub {l l' : List M} {a : Int} {m : M} (h : dQ pos W a l m) (hs : ∀ x ∈ l', x ∈ l) (hm : m ∈ l') : dQ pos W a l' m := ⟨hm, fun x hx => h.2 x (hs x hx)⟩
def gw (k : M → Int) : M → List M → M
 | b, [] => b
 | b, x :: l => gw k (if k x < k b then x else b) l
theorem xf (k : M → Int) (b x : M) (l : List M) : gw k b (x :: l) = gw k (if k x < k b then x else b) l := rfl
theorem ni (k : M → Int) : ∀ (l : List M) (b : M), gw k b l ∈ b :: l ∧ k (gw k b l) ≤ k b ∧ ∀ x ∈ l, k (gw k b l) ≤ k x
 | [], b => ⟨List.mem_cons_self, Int.le_refl _, fun x hx => by cases hx⟩
 | x :: l, b => by
  rw [xf]
  by_cases h : k x < k b
  ·rw [if_pos h]
   obtain ⟨h1, h2, h3⟩ := ni k l x
   refine ⟨List.mem_cons_of_mem _ h1, by omega, fun y hy => ?_⟩
   rcases List.mem_cons.1 hy with rfl | hy
   ·exact h2
   ·exact h3 y hy
  ·rw [if_neg h]
   obtain ⟨h1, h2, h3⟩ := ni k l b
   refine ⟨?_, h2, fun y hy => ?_⟩
   ·rcases List.mem_cons.1 h1 with e | h'
    ·rw [e]; exact List.mem_cons_self
    ·exact List.mem_cons_of_mem _ (List.mem_cons_of_mem _ h')
   ·rcases List.mem_cons.1 hy with rfl | hy
    ·omega
    ·exact h3 y hy
structure gY (pos : M → Int) (W a : Int) (l s : List M) : Prop where
 mem : ∀ x, x ∈ s ↔ x ∈ l
 lt : s.Pairwise fun x y => rky W a (pos x) < rky W a (pos y)
theorem gY.get {a : Int} {l s : List M} (h : gY pos W a l s) {i j : Nat} (hi : i < j) (hj : j < s.length) : rky W a (pos s[i]) < rky W a (pos s[j]) := List.pairwise_iff_getElem.1 h.lt i j (by omega) hj hi
theorem gY.nodup {a : Int} {l s : List M} (h : gY pos W a l s) {i j : Nat} (hi : i < s.length) (hj : j < s.length) (e : s[i] = s[j]) : i = j := by
 rcases Nat.lt_trichotomy i j with h1 | h1 | h1
 ·have := h.get h1 hj; rw [e] at this; omega
 ·exact h1
 ·have := h.get h1 hi; rw [e] at this; omega
theorem gY.first {a : Int} {l s : List M} (h : gY pos W a l s) (h0 : 0 < s.length) : dQ pos W a l s[0] :=
 ⟨(h.mem _).1 (List.getElem_mem h0), fun x hx => by
  obtain ⟨j, hj, rfl⟩ := List.getElem_of_mem ((h.mem x).2 hx)
  rcases Nat.eq_zero_or_pos j with e | e
  ·subst e; exact Int.le_refl _
  ·exact Int.le_of_lt (h.get e hj)⟩
theorem gY.next {a : Int} {l s : List M} (hl : uK pos W l) (ha : 0 ≤ a ∧ a < W) (h : gY pos W a l s) {i : Nat} (hi : i < s.length) :
    dQ pos W (rup W (pos s[i])) l (s[(i + 1) % s.length]'(Nat.mod_lt _ (by omega))) := by
  have hr : ∀ j (hj : j < s.length), 0 ≤ pos s[j] ∧ pos s[j] < W := fun j hj => hl.in' _ ((h.mem _).1 (List.getElem_mem hj))
  have hn : (i + 1) % s.length < s.length := Nat.mod_lt _ (by omega)
  refine ⟨(h.mem _).1 (List.getElem_mem hn), fun x hx => ?_⟩
  obtain ⟨j, hj, rfl⟩ := List.getElem_of_mem ((h.mem x).2 hx)
  have key : ∀ k (hk : k < s.length), rky W (rup W (pos s[i])) (pos s[k]) = if k = i then W - 1 else (if i < k then rky W a (pos s[k]) - rky W a (pos s[i]) - 1 else rky W a (pos s[k]) - rky W a (pos s[i]) + W - 1) := fun k hk => by
    rw [wF (hr i hi) (hr k hk)]
    by_cases e : k = i
    · subst e; rw [if_pos rfl, if_pos rfl]
    · have hne : ¬ pos s[k] = pos s[i] := fun hp => e (h.nodup hk hi (hl.inj _ ((h.mem _).1 (List.getElem_mem hk)) _ ((h.mem _).1 (List.getElem_mem hi)) hp))
      rw [if_neg hne, if_neg e, uQ ha (hr i hi) (hr k hk)]
      by_cases h1 : i < k
      · have := h.get h1 hk
        rw [if_pos h1, if_pos (by omega)]
      · have := h.get (show k < i by omega) hi
        rw [if_neg h1, if_neg (by omega)]
  rw [key _ hn, key j hj]
  have rg : ∀ k (hk : k < s.length), 0 ≤ rky W a (pos s[k]) ∧ rky W a (pos s[k]) < W := fun k hk => p4 ha (hr k hk)
  have ri := rg i hi
  have rj := rg j hj
  by_cases hlast : i + 1 < s.length
  · have e : (i + 1) % s.length = i + 1 := Nat.mod_eq_of_lt hlast
    simp only [e]
    rw [if_neg (by omega), if_pos (by omega)]
    have r1 := rg (i + 1) hlast
    have g1 := h.get (show i < i + 1 by omega) hlast
    by_cases e1 : j = i
    · rw [if_pos e1]; omega
    · rw [if_neg e1]
      by_cases e2 : i < j
      · rw [if_pos e2]
        rcases Nat.lt_or_ge (i + 1) j with e3 | e3
        · have := h.get e3 hj; omega
        · have : j = i + 1 := by omega
          subst this; omega
      · rw [if_neg e2]; omega
  · have e : (i + 1) % s.length = 0 := by rw [show i + 1 = s.length by omega, Nat.mod_self]
    simp only [e]
    by_cases e0 : 0 = i
    · subst e0
      have : j = 0 := by omega
      subst this
      exact Int.le_refl _
    · rw [if_neg e0, if_neg (by omega)]
      have r0 := rg 0 (by omega)
      have g0 := h.get (show 0 < i by omega) hi
      by_cases e1 : j = i
      · rw [if_pos e1]; omega
      · rw [if_neg e1, if_neg (by omega)]
        rcases Nat.eq_zero_or_pos j with e2 | e2
        · subst e2; omega
        · have := h.get e2 hj; omega
theorem gY.self {l s : List M} (hl : uK pos W l) {m : M} (hm : m ∈ l) (h : gY pos W (pos m) l s) (h0 : 0 < s.length) : s[0] = m :=
 dQ.uniq hl (hl.in' m hm) (h.first h0) ⟨hm, fun x hx => by rw [Ao]; exact (p4 (hl.in' m hm) (hl.in' x hx)).1⟩
theorem xR {l l' : List M} (hl : uK pos W l) {m b : M} {a : Int} (ha : 0 ≤ a ∧ a < W) (hm : dQ pos W a l m) (hl' : ∀ x, x ∈ l' ↔ (x ∈ l ∧ ¬ x = m)) (hb : dQ pos W a l' b) : dQ pos W (rup W (pos m)) l b := by
 have hbl := (hl' b).1 hb.1
 refine ⟨hbl.1, fun x hx => ?_⟩
 have rm := hl.in' m hm.1
 rw [wF rm (hl.in' b hbl.1), wF rm (hl.in' x hx), if_neg (fun e => hbl.2 (hl.inj b hbl.1 m hm.1 e))]
 have sh : ∀ x ∈ l, rky W (pos m) (pos x) = rky W a (pos x) - rky W a (pos m) := fun x hx => by rw [uQ ha rm (hl.in' x hx), if_pos (hm.2 x hx)]
 by_cases e : pos x = pos m
 ·rw [if_pos e]
  have := p4 rm (hl.in' b hbl.1)
  omega
 ·rw [if_neg e, sh b hbl.1, sh x hx]
  have := hb.2 x ((hl' x).2 ⟨hx, fun h => e (by rw [h])⟩)
  omega
end
end Go.Proofs.Ytiaplhcifflibaa
namespace Go.Proofs
open Go.Shelf
def Try.sortMember_ren : Go.Shelf.Ren := ⟨fun | 6 => 36 | 15 => 48 | 14 => 47 | 28 => 58 | 29 => 59 | 20 => 50 | 21 => 51 | 22 => 52 | 23 => 53 | 24 => 54 | 25 => 55 | 26 => 56 | 27 => 57 | 46 => 61 | 47 => 62 | 48 => 63 | 49 => 64 | 50 => 65 | 57 => 66 | n => n, fun | 22 => 22 | 24 => 30 | 25 => 52 | 3 => 3 | 39 => 71 | 0 => 0 | 53 => 82 | 55 => 84 | 4 => 4 | 46 => 75 | 45 => 74 | 50 => 79 | 5 => 5 | 9 => 9 | 66 => 86 | 70 => 90 | 76 => 92 | 77 => 93 | n => n, fun | n => n⟩
theorem Try.sortMember : Go.Proofs.SlLaysF0.n6 Try.prog Try.sortMember_ren := {
 mixed := by kernel_rfl
 f6 := ⟨Try.f36.name, by decide, Try.func36.trans (congrArg some (by kernel_rfl))⟩
 f14 := ⟨Try.f47.name, by decide, Try.func47.trans (congrArg some (by kernel_rfl))⟩
 f15 := Try.func48.trans (congrArg some (by kernel_rfl))
 f20 := ⟨Try.f50.name, by decide, Try.func50.trans (congrArg some (by kernel_rfl))⟩
 f21 := ⟨Try.f51.name, by decide, Try.func51.trans (congrArg some (by kernel_rfl))⟩
 f22 := ⟨Try.f52.name, by decide, Try.func52.trans (congrArg some (by kernel_rfl))⟩
 f23 := ⟨Try.f53.name, by decide, Try.func53.trans (congrArg some (by kernel_rfl))⟩
 f24 := ⟨Try.f54.name, by decide, Try.func54.trans (congrArg some (by kernel_rfl))⟩
 f25 := ⟨Try.f55.name, by decide, Try.func55.trans (congrArg some (by kernel_rfl))⟩
 f26 := ⟨Try.f56.name, by decide, Try.func56.trans (congrArg some (by kernel_rfl))⟩
 f27 := ⟨Try.f57.name, by decide, Try.func57.trans (congrArg some (by kernel_rfl))⟩
 f28 := Try.func58.trans (congrArg some (by kernel_rfl))
 f29 := Try.func59.trans (congrArg some (by kernel_rfl))
 f46 := ⟨Try.f61.name, by decide, Try.func61.trans (congrArg some (by kernel_rfl))⟩
 f47 := Try.func62.trans (congrArg some (by kernel_rfl))
 f48 := Try.func63.trans (congrArg some (by kernel_rfl))
 f49 := ⟨Try.f64.name, by decide, Try.func64.trans (congrArg some (by kernel_rfl))⟩
 f50 := ⟨Try.f65.name, by decide, Try.func65.trans (congrArg some (by kernel_rfl))⟩
 f57 := ⟨Try.f66.name, by decide, Try.func66.trans (congrArg some (by kernel_rfl))⟩
 t0 := Try.underlying0
 a0 := Try.isAgg0
 z0 := Try.sizeOf0
 v0 := Try.zeroValue0
 t3 := Try.underlying3
 a3 := Try.isAgg3
 z3 := Try.sizeOf3
 v3 := Try.zeroValue3
 t4 := Try.underlying4
 a4 := Try.isAgg4
 z4 := Try.sizeOf4
 v4 := Try.zeroValue4
 t5 := Try.underlying5
 a5 := Try.isAgg5
 z5 := Try.sizeOf5
 v5 := Try.zeroValue5
 t9 := Try.underlying9
 a9 := Try.isAgg9
 z9 := Try.sizeOf9
 v9 := Try.zeroValue9
 t22 := Try.underlying22
 a22 := Try.isAgg22
 z22 := Try.sizeOf22
 v22 := Try.zeroValue22
 t25 := Try.underlying52
 a25 := Try.isAgg52
 z25 := Try.sizeOf52
 v25 := Try.zeroValue52
 t39 := Try.underlying71
 a39 := Try.isAgg71
 z39 := Try.sizeOf71
 v39 := Try.zeroValue71
 t45 := Try.underlying74
 a45 := Try.isAgg74
 z45 := Try.sizeOf74
 v45 := Try.zeroValue74
 t46 := Try.underlying75
 a46 := Try.isAgg75
 z46 := Try.sizeOf75
 v46 := Try.zeroValue75
 t50 := Try.underlying79
 a50 := Try.isAgg79
 z50 := Try.sizeOf79
 v50 := Try.zeroValue79
 t53 := Try.underlying82
 a53 := Try.isAgg82
 z53 := Try.sizeOf82
 v53 := Try.zeroValue82
 t55 := Try.underlying84
 a55 := Try.isAgg84
 z55 := Try.sizeOf84
 v55 := Try.zeroValue84
 t66 := Try.underlying86
 a66 := Try.isAgg86
 z66 := Try.sizeOf86
 v66 := Try.zeroValue86
 t70 := Try.underlying90
 a70 := Try.isAgg90
 z70 := Try.sizeOf90
 v70 := Try.zeroValue90
 t76 := Try.underlying92
 a76 := Try.isAgg92
 z76 := Try.sizeOf92
 v76 := Try.zeroValue92
 t77 := Try.underlying93
 a77 := Try.isAgg93
 z77 := Try.sizeOf93
 v77 := Try.zeroValue93 }
theorem Try.sortMember_none (p : Option Addr) (cap : Nat) (fv : Value) (w : World) :
    Calls Try.prog 36 #[.slice p 0 cap, fv] w fun e w' => e = .returned (.tuple #[]) ∧ w' = w := AnyF.slices_SortFunc_none Try.sortMember p cap fv w
end Go.Proofs
namespace Go.Proofs.Ytiaplhcifflibaa
open Go Go.RowKit
@[reducible] def dz : dU := zz ab
theorem jq : jU prog [] cF dz :=
 zb (e := ab) rfl rfl (i4 jM (by kernel_rfl) (by kernel_rfl)) (fun p cap fv w => Try.sortMember_none p cap fv w) fun enc hk h1 cf hO g cb blk off cap d w eg hcmp hH hblk hsz hT =>
  Go.Proofs.AnyQ.slices_SortFunc_total Try.sortMember 33 (fun w => (gq bL (show List.lookup (Try.sortMember_ren.t 24) cm = some ab by kernel_rfl)).isAgg w) (fun w => (gq bL (show List.lookup (Try.sortMember_ren.t 24) cm = some ab by kernel_rfl)).sizeOf w) enc hk h1 cf hO g cb blk off cap d w eg hcmp hH hblk hsz hT
abbrev Av : Ty := .clo dG (.pair (.ref (.slc ab)) .unit)
abbrev f9 : Ty := .pair Av .unit
noncomputable abbrev cZ : bT := ⟨gA, f9, fun x => ((x.1, ()), ()), fun _ => True, false⟩
abbrev eO : Ty := .pair Av (.pair (lH ab) .unit)
noncomputable abbrev cu : bT := ⟨eO, c6, fun x => (cX ab x.2.1 x.1.1, ()), fun x => eQ ab x.2.1 x.1.1, false⟩
def br (id : List Int) : den (lH ab) := some fun y => (i5 (aO id y.1.2.1) (aO id y.2.1.2.1), ())
noncomputable abbrev fF : bT := ⟨oC, ow, fun x => (br x.1, ()), fun _ => True, true⟩
noncomputable abbrev bW : bT := ⟨eC, eE, fun x => (x.1.any (prM x.2.1), ()), fun x => nm (.pair ab .unit) (.pair .bool .unit) x.2.1, false⟩
def nr : List Mem → List Mem → Bool
 | _, [] => true
 | pre, m :: l => (!(pre.any fun x => eY x m)) && decide (0 ≤ m.1) && decide (m.1 < 16) && nr (pre ++ [m]) l
def aA (l : List Mem) : Bool := nr [] l && decide (l.length ≤ 16)
noncomputable abbrev co : bT := ⟨nE, ju, fun x => (aA x.1, ()), fun _ => True, true⟩
def a7 (l : List Mem) (id : List Int) : Mem × Int := bif !aA l then (zero ab, 1) else bif decide (lnx ab l = 0) then (zero ab, 6) else (tG (cmM (br id)) l, 0)
noncomputable abbrev dy : bT := ⟨nH, js, fun x => ((a7 x.1 x.2.1).1, (a7 x.1 x.2.1).2, ()), fun _ => True, true⟩
def gE (l : List Mem) (no : Int) : Int := ixP (fun m => decide (m.1 = no)) l 0
def aZ (l : List Mem) (no : Int) : List Mem × Int := bif !aA l then ([], 1) else bif decide (gE l no < 0) then ([], 6) else (cX ab (br (el ab l (gE l no)).2.1) l, 0)
noncomputable abbrev fq : bT := ⟨mE, iH, fun x => ((aZ x.1 x.2.1).1, (aZ x.1 x.2.1).2, ()), fun _ => True, true⟩
def l9 (all : List Mem) : Nat → List Mem
 | 0 => []
 | i + 1 => l9 all i ++ [el ab all (Int.tmod ((i : Int) + 1) all.length)]
def ce (l : List Mem) (no many : Int) : List Mem × Int := bif (bif decide (many < 0) then true else decide (16 < many)) then ([], 1) else bif !decide ((aZ l no).2 = 0) then ([], (aZ l no).2) else (l9 (aZ l no).1 many.toNat, 0)
noncomputable abbrev gc : bT := ⟨nw, fA, fun x => ((ce x.1 x.2.1 x.2.2.1).1, (ce x.1 x.2.1 x.2.2.1).2, ()), fun _ => True, true⟩
def noM : Mem := (-1, zero (Ty.pair tId Ty.unit))
def mf (id : List Int) (b m : Mem) : Mem := bif (bif decide (b.1 < 0) then true else decide (i5 (aO id m.2.1) (aO id b.2.1) < 0)) then m else b
def uj (l : List Mem) (id : List Int) : Mem := l.foldl (mf id) noM
def eN (l : List Mem) (m : Mem) : Mem := uj l (tv m.2.1 pw0)
def oK (l : List Mem) : Mem → Nat → List Mem × Mem
 | m, 0 => ([], m)
 | m, i + 1 => ((oK l m i).1 ++ [eN l (oK l m i).2], eN l (oK l m i).2)
noncomputable abbrev iZ : bT := ⟨oa, oq, fun _ => (true, ()), fun _ => True, true⟩
end Go.Proofs.Ytiaplhcifflibaa
namespace Go.Proofs.Ytiaplhcifflibaa
open Go Go.RowKit
noncomputable abbrev eD : Fx := { fn := cU, ann := { } }
noncomputable abbrev eS : bz := { D := { T := cm, F := [(bn, bl)], R := [], ovl := [] }, inl := [] }
noncomputable abbrev iE : cY := .data eE
theorem iI (h_slices_IndexFunc_Member : aP prog [] bn bl) : XOk prog eS := xok (a8 (bI bL bj) h_slices_IndexFunc_Member) (by kernel_rfl) cj cI cJ
noncomputable def eV (s : den (Ty.slc ab)) (f : den (Ty.fn (Ty.pair ab Ty.unit) (Ty.pair Ty.bool Ty.unit))) : ae := ae.req (∃ (h : den (Ty.pair ab Ty.unit) → den (Ty.pair Ty.bool Ty.unit)), f = some h) (ae.ret (K.val (Ty.pair Ty.bool Ty.unit) (decide (0 ≤ ixP (prM f) s 0), PUnit.unit)))
theorem hP (s : den (Ty.slc ab)) (f : den (Ty.fn (Ty.pair ab Ty.unit) (Ty.pair Ty.bool Ty.unit))) : ay eS iE 5000 [] eD (aG cU) (Env.of (bc eC (s, f, ()) 0) []) = eV s f := by kernel_rfl
noncomputable abbrev gB : Fx := { fn := er, ann := { frz := [(1, [1])] } }
noncomputable abbrev gI : bz := { D := { T := cm, F := [], R := [], ovl := [] }, inl := [] }
noncomputable abbrev md : cY := .data f9
theorem lV : XOk prog gI := xok ((bI bL bj)) (by kernel_rfl) cj cI cJ
noncomputable def gG (s : den (Ty.slc ab)) : ae := ae.ret (K.val (Ty.pair (Ty.clo 37 (Ty.pair (Ty.ref (Ty.slc ab)) Ty.unit)) Ty.unit) ((s, PUnit.unit), PUnit.unit))
theorem jW (s : den (Ty.slc ab)) : ay gI md 5000 [] gB (aG er) (Env.of (bc gA (s, ()) 0) []) = gG s := by kernel_rfl
noncomputable abbrev ox : Fx := { fn := lT, ann := { frz := [(1, [1])] } }
noncomputable abbrev pt : bz := { D := { T := cm, F := [(gT, gM)], R := [], ovl := [] }, inl := [] }
noncomputable abbrev vR : cY := .data ow
theorem vh (h_ring_from_1 : aP prog [] gT gM) : XOk prog pt := xok (a8 (bI bL bj) h_ring_from_1) (by kernel_rfl) cj cI cJ
noncomputable def pK (id : den tId) : ae := ae.req (∀ (y : den (Ty.pair ab (Ty.pair ab Ty.unit))), True) (ae.ret (K.val (Ty.pair (Ty.fn (Ty.pair ab (Ty.pair ab Ty.unit)) (Ty.pair af Ty.unit)) Ty.unit) (some fun (y : den (Ty.pair ab (Ty.pair ab Ty.unit))) ↦ (i5 (aO id (Prod.fst (Prod.snd (Prod.fst y)))) (aO id (Prod.fst (Prod.snd (Prod.fst (Prod.snd y))))), PUnit.unit), PUnit.unit)))
theorem sC (id : den tId) : ay pt vR 5000 [] ox (aG lT) (Env.of (bc oC (id, ()) 0) []) = pK id := by kernel_rfl
noncomputable abbrev dS : Fx := { fn := dE, ann := { loops := [(2, { keep := [0, 6, 7, 8] })], frz := [(4, [4])] } }
noncomputable abbrev fY : bz := { D := { T := cm, F := [(bZ, bW), (gl, gv)], R := [], ovl := [] }, inl := [] }
noncomputable abbrev oM : cY := .data ju
theorem uH (h_slices_ContainsFunc_Member : aP prog [] bZ bW) (h_ring_Right_1 : aP prog [] gl gv) : XOk prog fY := xok (a8 (a8 (bI bL bj) h_ring_Right_1) h_slices_ContainsFunc_Member) (by kernel_rfl) cj cI cJ
noncomputable def oT (l : den (Ty.slc ab)) : ae := ae.loop [] dS (lp dE 2) [(0, K.val (Ty.slc ab) l), (6, K.val (Ty.slc ab) l), (7, K.val af (lnx ab l)), (8, K.val af 0)] []
theorem qE (l : den (Ty.slc ab)) : ay fY oM 5000 [] dS (aG dE) (Env.of (bc nE (l, ()) 0) []) = oT l := by kernel_rfl
noncomputable def mF (v0 : den (Ty.slc ab)) (v6 : den (Ty.slc ab)) (v7 : den af) (v8 : den af) : Env := Env.of [(0, K.val (Ty.slc ab) v0), (6, K.val (Ty.slc ab) v6), (7, K.val af v7), (8, K.val af v8)] []
noncomputable def rM (v0 : den (Ty.slc ab)) (v6 : den (Ty.slc ab)) (v7 : den af) (v8 : den af) : ae := ae.ite (decide (v8 < v7)) (ae.req (inB v8 (lnx ab v6)) (ae.req (bH 0 v8 (lnx ab v0)) (ae.req (∀ (y : den (Ty.pair ab Ty.unit)), True) (ae.req (∃ (h : den (Ty.pair ab Ty.unit) → den (Ty.pair Ty.bool Ty.unit)), (some fun (y : den (Ty.pair ab Ty.unit)) ↦ (eY (Prod.fst y) (el ab v6 v8), PUnit.unit)) = some h) (ae.ite (bif bif List.any (gR ab v0 0 v8) (prM (some fun (y : den (Ty.pair ab Ty.unit)) ↦ (eY (Prod.fst y) (el ab v6 v8), PUnit.unit))) then true else decide (Prod.fst (el ab v6 v8) < 0) then true else decide (16 ≤ Prod.fst (el ab v6 v8))) (ae.ret (K.val (Ty.pair Ty.bool Ty.unit) (false, PUnit.unit))) (ae.loop [] dS (lp dE 2) [(0, K.val (Ty.slc ab) v0), (6, K.val (Ty.slc ab) v6), (7, K.val af v7), (8, K.val af (IntKind.wrap IntKind.i64 (v8 + 1)))] [])))))) (ae.ret (K.val (Ty.pair Ty.bool Ty.unit) (decide (lnx ab v0 ≤ 16), PUnit.unit)))
theorem ja (v0 : den (Ty.slc ab)) (v6 : den (Ty.slc ab)) (v7 : den af) (v8 : den af) : ay fY oM 5000 [] dS (lp dE 2) (mF v0 v6 v7 v8) = rM v0 v6 v7 v8 := by kernel_rfl
noncomputable abbrev nx : Fx := { fn := kp, ann := { } }
noncomputable abbrev ou : bz := { D := { T := cm, F := [(cn, co), (fG, fF), (cO, cQ)], R := [], ovl := [] }, inl := [] }
noncomputable abbrev tN : cY := .data js
theorem u4 (h_ring_Right : aP prog [] cn co) (h_ring_from : aP prog [] fG fF) (h_slices_MinFunc_Member : aP prog [] cO cQ) : XOk prog ou := xok (a8 (a8 (a8 (bI bL bj) h_slices_MinFunc_Member) h_ring_from) h_ring_Right) (by kernel_rfl) cj cI cJ
noncomputable def nX (l : den (Ty.slc ab)) (id : den tId) : ae := ae.req True (ae.ite (!aA l) (ae.ret (K.val (Ty.pair ab (Ty.pair af Ty.unit)) (zero (Ty.pair af (Ty.pair tId Ty.unit)), 1, PUnit.unit))) (ae.ite (decide (lnx ab l = 0)) (ae.ret (K.val (Ty.pair ab (Ty.pair af Ty.unit)) (zero (Ty.pair af (Ty.pair tId Ty.unit)), 6, PUnit.unit))) (ae.req True (ae.req ((∃ (h : den (Ty.pair ab (Ty.pair ab Ty.unit)) → den (Ty.pair af Ty.unit)), br id = some h) ∧ 0 < List.length l) (ae.ret (K.val (Ty.pair ab (Ty.pair af Ty.unit)) (tG (cmM (br id)) l, 0, PUnit.unit)))))))
theorem qX (l : den (Ty.slc ab)) (id : den tId) : ay ou tN 5000 [] nx (aG kp) (Env.of (bc nH (l, id, ()) 0) []) = nX l id := by kernel_rfl
noncomputable abbrev mn : Fx := { fn := jF, ann := { frz := [(3, [3])] } }
noncomputable abbrev ny : bz := { D := { T := cm, F := [(cn, co), (bn, bl), (fR, fN), (cW, cZ), (fG, fF), (cp, cu)], R := [], ovl := [] }, inl := [] }
noncomputable abbrev tk : cY := .data iH
theorem ta (h_ring_Right : aP prog [] cn co) (h_slices_IndexFunc_Member : aP prog [] bn bl) (h_ring_turned_1 : aP prog [] fR fN) (h_slices_Values_Member : aP prog [] cW cZ) (h_ring_from : aP prog [] fG fF) (h_slices_SortedFunc_Member : aP prog [] cp cu) : XOk prog ny := xok (a8 (a8 (a8 (a8 (a8 (a8 (bI bL bj) h_slices_SortedFunc_Member) h_ring_from) h_slices_Values_Member) h_ring_turned_1) h_slices_IndexFunc_Member) h_ring_Right) (by kernel_rfl) cj cI cJ
noncomputable def nC (l : den (Ty.slc ab)) (no : den af) : ae := ae.req True (ae.ite (!aA l) (ae.ret (K.val (Ty.pair (Ty.slc ab) (Ty.pair af Ty.unit)) ([], 1, PUnit.unit))) (ae.req (∀ (y : den (Ty.pair ab Ty.unit)), True) (ae.req (∃ (h : den (Ty.pair ab Ty.unit) → den (Ty.pair Ty.bool Ty.unit)), (some fun (y : den (Ty.pair ab Ty.unit)) ↦ (decide (Prod.fst (Prod.fst y) = no), PUnit.unit)) = some h) (ae.ite (decide (ixP (prM (some fun (y : den (Ty.pair ab Ty.unit)) ↦ (decide (Prod.fst (Prod.fst y) = no), PUnit.unit))) l 0 < 0)) (ae.ret (K.val (Ty.pair (Ty.slc ab) (Ty.pair af Ty.unit)) ([], 6, PUnit.unit))) (ae.req True (ae.req (inB (ixP (prM (some fun (y : den (Ty.pair ab Ty.unit)) ↦ (decide (Prod.fst (Prod.fst y) = no), PUnit.unit))) l 0) (lnx ab l)) (ae.req True (ae.req (eQ ab (br (Prod.fst (Prod.snd (el ab l (ixP (prM (some fun (y : den (Ty.pair ab Ty.unit)) ↦ (decide (Prod.fst (Prod.fst y) = no), PUnit.unit))) l 0))))) l) (ae.ret (K.val (Ty.pair (Ty.slc ab) (Ty.pair af Ty.unit)) (cX ab (br (Prod.fst (Prod.snd (el ab l (ixP (prM (some fun (y : den (Ty.pair ab Ty.unit)) ↦ (decide (Prod.fst (Prod.fst y) = no), PUnit.unit))) l 0))))) l, 0, PUnit.unit)))))))))))
theorem ql (l : den (Ty.slc ab)) (no : den af) : ay ny tk 5000 [] mn (aG jF) (Env.of (bc mE (l, no, ()) 0) []) = nC l no := by kernel_rfl
noncomputable abbrev dR : Fx := { fn := dF, ann := { loops := [(8, { keep := [8, 10, 27, 28], own := [(10, ab)] })] }, share := true }
noncomputable abbrev io : bz := { D := { T := cm, F := [(gQ, fq)], R := [], ovl := [] }, inl := [] }
noncomputable abbrev oW : cY := .data fA
theorem kQ (h_ring_turned : aP prog [] gQ fq) : XOk prog io := xok (a8 (bI bL bj) h_ring_turned) (by kernel_rfl) cj cI cJ
noncomputable def nO (l : den (Ty.slc ab)) (no : den af) (many : den af) : ae := ae.ite (bif decide (many < 0) then true else decide (16 < many)) (ae.ret (K.val (Ty.pair (Ty.slc ab) (Ty.pair af Ty.unit)) ([], 1, PUnit.unit))) (ae.req True (ae.all (den (Ty.pair (Ty.slc ab) (Ty.pair af Ty.unit))) (fun (q3 : den (Ty.pair (Ty.slc ab) (Ty.pair af Ty.unit))) ↦ q3 = (Prod.fst (aZ l no), Prod.snd (aZ l no), PUnit.unit)) fun (q3 : den (Ty.pair (Ty.slc ab) (Ty.pair af Ty.unit))) ↦ ae.ite (!decide (Prod.fst (Prod.snd q3) = 0)) (ae.ret (K.val (Ty.pair (Ty.slc ab) (Ty.pair af Ty.unit)) ([], Prod.fst (Prod.snd q3), PUnit.unit))) (ae.loop [] dR (lp dF 8) [(8, K.val (Ty.slc ab) (Prod.fst q3)), (10, K.sl 0 ab), (27, K.val af many), (28, K.val af 0)] [(0, Bx.row ab [])])))
theorem rq (l : den (Ty.slc ab)) (no : den af) (many : den af) : ay io oW 5000 [] dR (aG dF) (Env.of (bc nw (l, no, many, ()) 0) []) = nO l no many := by kernel_rfl
noncomputable def mz (v8 : den (Ty.slc ab)) (v27 : den af) (v28 : den af) (b0 : List (den ab)) : Env := Env.of [(8, K.val (Ty.slc ab) v8), (10, K.sl 0 ab), (27, K.val af v27), (28, K.val af v28)] [(0, Bx.row ab b0)]
noncomputable def rn (v8 : den (Ty.slc ab)) (v27 : den af) (v28 : den af) (b0 : List (den ab)) : ae := ae.ite (decide (v28 < v27)) (ae.req (nz (lnx ab v8)) (ae.req (inB (Int.tmod (IntKind.wrap IntKind.i64 (v28 + 1)) (lnx ab v8)) (lnx ab v8)) (ae.req (List.length (b0 ++ List.set (List.replicate 1 (zero ab)) 0 (el ab v8 (Int.tmod (IntKind.wrap IntKind.i64 (v28 + 1)) (lnx ab v8)))) ≤ cv) (ae.loop [] dR (lp dF 8) [(8, K.val (Ty.slc ab) v8), (10, K.sl 0 ab), (27, K.val af v27), (28, K.val af (IntKind.wrap IntKind.i64 (v28 + 1)))] [(0, Bx.row ab (b0 ++ List.set (List.replicate 1 (zero ab)) 0 (el ab v8 (Int.tmod (IntKind.wrap IntKind.i64 (v28 + 1)) (lnx ab v8)))))])))) (ae.ret (K.val (Ty.pair (Ty.slc ab) (Ty.pair af Ty.unit)) (b0, 0, PUnit.unit)))
theorem jh (v8 : den (Ty.slc ab)) (v27 : den af) (v28 : den af) (b0 : List (den ab)) : ay io oW 5000 [] dR (lp dF 8) (mz v8 v27 v28 b0) = rn v8 v27 v28 b0 := by kernel_rfl
noncomputable abbrev bt : Fx := { fn := be, ann := { } }
noncomputable abbrev bh : Fx := { fn := ai, ann := { }, own := [2] }
noncomputable abbrev aW : Fx := { fn := aQ, ann := { loops := [(1, { keep := [0, 5, 6, 7] })], frz := [(1000001, [2]), (3000001, [1])] } }
noncomputable abbrev aR : Fx := { fn := aM, ann := { } }
noncomputable abbrev bf : bz := { D := { T := cm, F := [], R := [(cF, dz)], ovl := [] }, inl := [(gz, bt), (fW, bh), (dG, aW)] }
noncomputable abbrev dh : cY := .data c6
theorem jC (h_slices_SortFunc_Member : jU prog [] cF dz) : XOk prog bf := xok ((bI bL bj)) (by kernel_rfl) (zp h_slices_SortFunc_Member cj) (sd kP (by kernel_rfl) (sd jw (by kernel_rfl) (sd jP (by kernel_rfl) cI))) cJ
noncomputable def fo (seq : den (Ty.clo 37 (Ty.pair (Ty.ref (Ty.slc ab)) Ty.unit))) (cmp : den (Ty.fn (Ty.pair ab (Ty.pair ab Ty.unit)) (Ty.pair af Ty.unit))) : ae := ae.loop [{ fx := bh, todo := ij ai 3, dst := none, s := ofS [(2, K.ptr (0 + 1) (Ty.slc ab) [])], rng := some 0 }, { fx := bt, todo := fD be 1 1, dst := some 4, s := ofS [] }, { fx := aR, todo := fD aM 1 1, dst := some 7, s := ofS [(1, K.val (Ty.fn (Ty.pair ab (Ty.pair ab Ty.unit)) (Ty.pair af Ty.unit)) cmp)] }] aW (lp aQ 1) [(0, K.yld 0), (5, K.val (Ty.slc ab) (Prod.fst seq)), (6, K.val af (lnx ab (Prod.fst seq))), (7, K.val af 0)] [(0, Bx.lop LoopState.ready none [(2, K.ptr (0 + 1) (Ty.slc ab) [])] 13 (u3 ai 3) (k8 ai 3) (nS ai 3)), (0 + 1, Bx.obj (Ty.slc ab) K.nilsl)]
theorem iw (seq : den (Ty.clo 37 (Ty.pair (Ty.ref (Ty.slc ab)) Ty.unit))) (cmp : den (Ty.fn (Ty.pair ab (Ty.pair ab Ty.unit)) (Ty.pair af Ty.unit))) : ay bf dh 5000 [] aR (aG aM) (Env.of (bc eO (seq, cmp, ()) 0) []) = fo seq cmp := by kernel_rfl
noncomputable def dq (w2_1 : den (Ty.fn (Ty.pair ab (Ty.pair ab Ty.unit)) (Ty.pair af Ty.unit))) (v5 : den (Ty.slc ab)) (v6 : den af) (v7 : den af) : List bq := [{ fx := bh, todo := ij ai 3, dst := none, s := ofS [(2, K.ptr (0 + 1) (Ty.slc ab) [])], rng := some 0 }, { fx := bt, todo := fD be 1 1, dst := some 4, s := ofS [] }, { fx := aR, todo := fD aM 1 1, dst := some 7, s := ofS [(1, K.val (Ty.fn (Ty.pair ab (Ty.pair ab Ty.unit)) (Ty.pair af Ty.unit)) w2_1)] }]
noncomputable def dp (w2_1 : den (Ty.fn (Ty.pair ab (Ty.pair ab Ty.unit)) (Ty.pair af Ty.unit))) (v5 : den (Ty.slc ab)) (v6 : den af) (v7 : den af) : Env := Env.of [(0, K.yld 0), (5, K.val (Ty.slc ab) v5), (6, K.val af v6), (7, K.val af v7)] [(0, Bx.lop LoopState.ready none [(2, K.ptr (0 + 1) (Ty.slc ab) [])] 13 (u3 ai 3) (k8 ai 3) (nS ai 3)), (1, Bx.obj (Ty.slc ab) K.nilsl)]
noncomputable def dm (w2_1 : den (Ty.fn (Ty.pair ab (Ty.pair ab Ty.unit)) (Ty.pair af Ty.unit))) (v5 : den (Ty.slc ab)) (v6 : den af) (v7 : den af) : ae := ae.ite (decide (v7 < v6)) (ae.req (inB v7 (lnx ab v5)) (ae.req (List.length (List.set (List.replicate 1 (zero ab)) 0 (el ab v5 v7)) ≤ cv) (ae.ite (!true) (ae.req (eQ ab w2_1 (List.set (List.replicate 1 (zero ab)) 0 (el ab v5 v7))) (ae.ret (K.val (Ty.pair (Ty.slc ab) Ty.unit) (cX ab w2_1 (List.set (List.replicate 1 (zero ab)) 0 (el ab v5 v7)), PUnit.unit)))) (ae.loop [{ fx := bh, todo := ij ai 3, dst := none, s := ofS [(2, K.ptr (0 + 1) (Ty.slc ab) [])], rng := some 0 }, { fx := bt, todo := fD be 1 1, dst := some 4, s := ofS [] }, { fx := aR, todo := fD aM 1 1, dst := some 7, s := ofS [(1, K.val (Ty.fn (Ty.pair ab (Ty.pair ab Ty.unit)) (Ty.pair af Ty.unit)) w2_1)] }] aW (lp aQ 1) [(0, K.yld 0), (5, K.val (Ty.slc ab) v5), (6, K.val af v6), (7, K.val af (IntKind.wrap IntKind.i64 (v7 + 1)))] [(0, Bx.lop LoopState.ready none [(2, K.ptr (0 + 1) (Ty.slc ab) [])] 13 (u3 ai 3) (k8 ai 3) (nS ai 3)), (0 + 1, Bx.obj (Ty.slc ab) (K.sl (0 + 1 + 1) ab)), (0 + 1 + 1, Bx.row ab (List.set (List.replicate 1 (zero ab)) 0 (el ab v5 v7)))])))) (ae.req (eQ ab w2_1 []) (ae.ret (K.val (Ty.pair (Ty.slc ab) Ty.unit) ([], PUnit.unit))))
theorem c5 (w2_1 : den (Ty.fn (Ty.pair ab (Ty.pair ab Ty.unit)) (Ty.pair af Ty.unit))) (v5 : den (Ty.slc ab)) (v6 : den af) (v7 : den af) : ay bf dh 5000 (dq w2_1 v5 v6 v7) aW (lp aQ 1) (dp w2_1 v5 v6 v7) = dm w2_1 v5 v6 v7 := by kernel_rfl
noncomputable def bC (w2_1 : den (Ty.fn (Ty.pair ab (Ty.pair ab Ty.unit)) (Ty.pair af Ty.unit))) (v5 : den (Ty.slc ab)) (v6 : den af) (v7 : den af) (b2 : List (den ab)) : List bq := [{ fx := bh, todo := ij ai 3, dst := none, s := ofS [(2, K.ptr (0 + 1) (Ty.slc ab) [])], rng := some 0 }, { fx := bt, todo := fD be 1 1, dst := some 4, s := ofS [] }, { fx := aR, todo := fD aM 1 1, dst := some 7, s := ofS [(1, K.val (Ty.fn (Ty.pair ab (Ty.pair ab Ty.unit)) (Ty.pair af Ty.unit)) w2_1)] }]
noncomputable def bD (w2_1 : den (Ty.fn (Ty.pair ab (Ty.pair ab Ty.unit)) (Ty.pair af Ty.unit))) (v5 : den (Ty.slc ab)) (v6 : den af) (v7 : den af) (b2 : List (den ab)) : Env := Env.of [(0, K.yld 0), (5, K.val (Ty.slc ab) v5), (6, K.val af v6), (7, K.val af v7)] [(0, Bx.lop LoopState.ready none [(2, K.ptr (0 + 1) (Ty.slc ab) [])] 13 (u3 ai 3) (k8 ai 3) (nS ai 3)), (1, Bx.obj (Ty.slc ab) (K.sl (0 + 1 + 1) ab)), (2, Bx.row ab b2)]
noncomputable def c8 (w2_1 : den (Ty.fn (Ty.pair ab (Ty.pair ab Ty.unit)) (Ty.pair af Ty.unit))) (v5 : den (Ty.slc ab)) (v6 : den af) (v7 : den af) (b2 : List (den ab)) : ae := ae.ite (decide (v7 < v6)) (ae.req (inB v7 (lnx ab v5)) (ae.req (List.length (b2 ++ List.set (List.replicate 1 (zero ab)) 0 (el ab v5 v7)) ≤ cv) (ae.ite (!true) (ae.req (eQ ab w2_1 (b2 ++ List.set (List.replicate 1 (zero ab)) 0 (el ab v5 v7))) (ae.ret (K.val (Ty.pair (Ty.slc ab) Ty.unit) (cX ab w2_1 (b2 ++ List.set (List.replicate 1 (zero ab)) 0 (el ab v5 v7)), PUnit.unit)))) (ae.loop [{ fx := bh, todo := ij ai 3, dst := none, s := ofS [(2, K.ptr (0 + 1) (Ty.slc ab) [])], rng := some 0 }, { fx := bt, todo := fD be 1 1, dst := some 4, s := ofS [] }, { fx := aR, todo := fD aM 1 1, dst := some 7, s := ofS [(1, K.val (Ty.fn (Ty.pair ab (Ty.pair ab Ty.unit)) (Ty.pair af Ty.unit)) w2_1)] }] aW (lp aQ 1) [(0, K.yld 0), (5, K.val (Ty.slc ab) v5), (6, K.val af v6), (7, K.val af (IntKind.wrap IntKind.i64 (v7 + 1)))] [(0, Bx.lop LoopState.ready none [(2, K.ptr (0 + 1) (Ty.slc ab) [])] 13 (u3 ai 3) (k8 ai 3) (nS ai 3)), (0 + 1, Bx.obj (Ty.slc ab) (K.sl (0 + 1 + 1) ab)), (0 + 1 + 1, Bx.row ab (b2 ++ List.set (List.replicate 1 (zero ab)) 0 (el ab v5 v7)))])))) (ae.req (eQ ab w2_1 b2) (ae.ret (K.val (Ty.pair (Ty.slc ab) Ty.unit) (cX ab w2_1 b2, PUnit.unit))))
theorem bo (w2_1 : den (Ty.fn (Ty.pair ab (Ty.pair ab Ty.unit)) (Ty.pair af Ty.unit))) (v5 : den (Ty.slc ab)) (v6 : den af) (v7 : den af) (b2 : List (den ab)) : ay bf dh 5000 (bC w2_1 v5 v6 v7 b2) aW (lp aQ 1) (bD w2_1 v5 v6 v7 b2) = c8 w2_1 v5 v6 v7 b2 := by kernel_rfl
end Go.Proofs.Ytiaplhcifflibaa
