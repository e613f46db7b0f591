/- Part 3 of 10 of what this claim's proof stands on: a theory of programs on data, and the contracts of the functions that the law reaches. It holds no condition of its own. -/
import Derived.Test.YtimdnodkabnbfaaCA2
import Derived.WalkSpells
import Derived.Lib.AppendZerosOnto
import Derived.Laws.Externs
import Derived.Lib.Overlaps
import Derived.Laws.MakeOwn
import Derived.Laws.IdiomStrings
namespace Go.Proofs.Ytimdnodkabnbfaa
open Go Go.RowKit
section
variable {P : Program} {D : aK} {o : Oper} {a : Act} {G : Gst} {w : World} {tm : Nat → Value}
theorem fd {r : Operand → K} (hr : ∀ x, KV P G w tm (r x) (a.eval x)) {d : Int} {hi : Option Operand} {h : Int} (hh : (match hi with | none => some d | some o => iq (r o)) = some h) : (hi = none ∧ h = d) ∨ ∃ q k, hi = some q ∧ a.eval q = .int k h := by
 cases hi with
 | none => exact .inl ⟨rfl, (Option.some.inj hh).symm⟩
 | some q =>
  obtain ⟨k, e⟩ := jA (hr q) hh
  exact .inr ⟨q, k, rfl, e⟩
set_option maxHeartbeats 1000000 in
theorem K1 (hD : DOk P D) (hM : MemOk P G w) (hgl : GlobOk P D.G G.av w) {r : Operand → K} (hr : ∀ x, KV P G w tm (r x) (a.eval x)) {c : Call} (ho : o.op = .call c) {id : Nat} {k : K} {ch : Chg} {ps : List Prop} (h : dp D o r G.b id = some (k, ch, ps)) (hp : ∀ p ∈ ps, p) :
    ak P o a G w tm k ch := by
  unfold dp at h
  simp only [ho] at h
  split at h
  ·
    rename_i hc
    split at h
    · rename_i x t hx ht
      split at h
      · rename_i n hn
        simp only [Option.some.injEq, Prod.mk.injEq] at h
        obtain ⟨rfl, rfl, rfl⟩ := h
        obtain ⟨at0, h0, ht⟩ := Option.bind_eq_some_iff.1 ht
        exact Qf hD hM ho hc hx h0 ht (hr x) hn
      · cases h
    · cases h
  ·
    rename_i hc
    split at h
    · rename_i x l hx
      split at h
      · rename_i k' hk
        simp only [Option.some.injEq, Prod.mk.injEq] at h
        obtain ⟨rfl, rfl, rfl⟩ := h
        exact HM (mx := false) hM ho hc hx hr hk
      · cases h
    · cases h
  ·
    rename_i hc
    split at h
    · rename_i x l hx
      split at h
      · rename_i k' hk
        simp only [Option.some.injEq, Prod.mk.injEq] at h
        obtain ⟨rfl, rfl, rfl⟩ := h
        exact HM (mx := true) hM ho hc hx hr hk
      · cases h
    · cases h
  ·
    rename_i hc
    split at h
    · rename_i x y t t' hx ht
      split at h
      · rename_i et
        subst et
        have h0 : c.argTypes = #[t', t'] := by apply Array.ext'; rw [ht]
        split at h
        · rename_i e hte
          split at h
          · rename_i ys hys
            have hs := Lf hM (hr y) hys
            split at h
            · rename_i j e1 hj
              have hkx := hr x
              rw [hj] at hkx
              split at h
              · rename_i e' xs hb
                split at h
                · rename_i xs' hc'
                  obtain ⟨ee, rfl⟩ := cz hc'
                  cases ee
                  split at h
                  · rename_i hf
                    simp only [Option.some.injEq, Prod.mk.injEq] at h
                    obtain ⟨rfl, rfl, rfl⟩ := h
                    exact IQ hD hM ho hc hx h0 hte hkx hb hs hf (hp _ (by simp))
                  · cases h
                · cases h
              · cases h
            · rename_i hj
              have hkx := hr x
              rw [hj] at hkx
              split at h
              · rename_i hf
                simp only [Option.some.injEq, Prod.mk.injEq] at h
                obtain ⟨rfl, rfl, rfl⟩ := h
                exact yQ hD hM ho hc hx h0 hte (Lr hkx) hs hf (hp _ (by simp)) (.inl rfl)
              · cases h
            · rename_i e' xs hj
              have hkx := hr x
              rw [hj] at hkx
              split at h
              · rename_i xs' hc'
                obtain ⟨ee, rfl⟩ := cz hc'
                cases ee
                split at h
                · rename_i hf
                  simp only [Option.some.injEq, Prod.mk.injEq] at h
                  obtain ⟨rfl, rfl, rfl⟩ := h
                  exact yQ hD hM ho hc hx h0 hte hkx hs hf (hp _ (by simp)) (hp _ (by simp))
                · cases h
              · cases h
            · cases h
          · cases h
        · cases h
      · cases h
    · cases h
  ·
    rename_i f hc
    split at h
    · rename_i S hS
      split at h
      · rename_i x hx
        simp only [Option.some.injEq, Prod.mk.injEq] at h
        obtain ⟨rfl, rfl, rfl⟩ := h
        exact P0 hD hM hgl ho hc hS hr hx (hp _ (by simp))
      · cases h
    · cases h
  ·
    rename_i q _ hc
    split at h
    · rename_i as rs g hq
      split at h
      · rename_i y hy
        simp only [Option.some.injEq, Prod.mk.injEq] at h
        obtain ⟨rfl, rfl, rfl⟩ := h
        have hkq := hr q
        rw [hq] at hkq
        exact OO hM ho hc hkq hr hy (hp _ (by simp))
      · cases h
    · cases h
  · cases h
set_option maxHeartbeats 1000000 in
theorem K5 (hD : DOk P D) (hh : dX D = true) (hM : MemOk P G w) (hgl : GlobOk P D.G G.av w) {r : Operand → K} (hr : ∀ x, KV P G w tm (r x) (a.eval x)) {id : Nat} {k : K} {ch : Chg} {ps : List Prop} (h : dp D o r G.b id = some (k, ch, ps)) (hp : ∀ p ∈ ps, p) :
    ak P o a G w tm k ch := by
  have h' := h
  unfold dp at h
  split at h
  · rename_i x ho
    simp only [Option.some.injEq, Prod.mk.injEq] at h
    obtain ⟨rfl, rfl, rfl⟩ := h
    exact M0 hM (.inl ho) (hr x)
  · rename_i x ho
    simp only [Option.some.injEq, Prod.mk.injEq] at h
    obtain ⟨rfl, rfl, rfl⟩ := h
    exact M0 hM (.inr ho) (hr x)
  ·
    rename_i e ho
    split at h
    · rename_i t ht
      split at h
      · rename_i hf
        simp only [Option.some.injEq, Prod.mk.injEq] at h
        obtain ⟨rfl, rfl, rfl⟩ := h
        exact Ps hD hM ho ht hf
      · cases h
    · cases h
  ·
    rename_i e x ho
    split at h
    · rename_i t ht
      split at h
      · rename_i v hv
        split at h
        · rename_i hf
          simp only [Option.some.injEq, Prod.mk.injEq] at h
          obtain ⟨rfl, rfl, rfl⟩ := h
          exact Qi hD hM ho ht hf (hr x) hv
        · cases h
      · cases h
    · cases h
  ·
    rename_i e parts ho
    split at h
    · rename_i bd ht
      split at h
      · rename_i v hv
        simp only [Option.some.injEq, Prod.mk.injEq] at h
        obtain ⟨rfl, rfl, rfl⟩ := h
        exact LY hD hM ho ht hr hv
      · cases h
    · rename_i n e' ht
      split at h
      · rename_i v hv
        simp only [Option.some.injEq, Prod.mk.injEq] at h
        obtain ⟨rfl, rfl, rfl⟩ := h
        exact J5 hD hM ho ht hr hv
      · cases h
    · cases h
  ·
    rename_i t n parts ho
    split at h
    · rename_i e ht
      split at h
      · cases h
      · rename_i hn
        split at h
        · rename_i xs hv
          split at h
          · rename_i d hd
            split at h
            · split at h
              · rename_i hf
                simp only [Option.some.injEq, Prod.mk.injEq] at h
                obtain ⟨rfl, rfl, rfl⟩ := h
                exact CU hD hM ho ht hr hn hv hf
              · cases h
            · simp only [Option.some.injEq, Prod.mk.injEq] at h
              obtain ⟨rfl, rfl, rfl⟩ := h
              exact B8 hD hM ho ht hr hn hv
          · cases h
        · cases h
    · cases h
  ·
    rename_i t x ho
    split at h
    · rename_i u ht
      split at h
      · rename_i i base p hx
        have hkx := hr x
        rw [hx] at hkx
        split at h
        · rename_i bx hb
          split at h
          · rename_i hbase
            split at h
            · rename_i hta
              split at h
              · rename_i v hv
                simp only [Option.some.injEq, Prod.mk.injEq] at h
                obtain ⟨rfl, rfl, rfl⟩ := h
                exact Lz hD hM ht ho hkx hb hbase (Ae hp) hta hv
              · cases h
            · cases h
          · cases h
        · cases h
      · rename_i t' y hx
        have hkx := hr x
        rw [hx] at hkx
        split at h
        · rename_i e
          subst e
          simp only [Option.some.injEq, Prod.mk.injEq] at h
          obtain ⟨rfl, rfl, rfl⟩ := h
          exact LT hD hM ht ho hkx
        · cases h
      · cases h
    · cases h
  ·
    rename_i t x v ho
    split at h
    · rename_i u ht
      split at h
      · rename_i i base p hx
        have hkx := hr x
        rw [hx] at hkx
        split at h
        · rename_i bx hb
          split at h
          · rename_i hbase
            split at h
            · rename_i hta
              split at h
              · rename_i y hy
                split at h
                · rename_i bx' hn
                  simp only [Option.some.injEq, Prod.mk.injEq] at h
                  obtain ⟨rfl, rfl, rfl⟩ := h
                  exact KL hD hM ht ho hkx (hr v) hy hb hbase (Ae hp) hta hn
                · cases h
              · cases h
            · cases h
          · cases h
        · cases h
      · cases h
    · cases h
  ·
    rename_i x ho
    split at h
    · rename_i i base p hx
      have hkx := hr x
      rw [hx] at hkx
      simp only [Option.some.injEq, Prod.mk.injEq] at h
      obtain ⟨rfl, rfl, rfl⟩ := h
      exact Fc hM ho hkx
    · rename_i t y hx
      have hkx := hr x
      rw [hx] at hkx
      simp only [Option.some.injEq, Prod.mk.injEq] at h
      obtain ⟨rfl, rfl, rfl⟩ := h
      exact EW hM ho hkx
    · cases h
  ·
    rename_i op tx x y ty ho
    split at h
    · rename_i k' ps' hb
      simp only [Option.some.injEq, Prod.mk.injEq] at h
      obtain ⟨rfl, rfl, rfl⟩ := h
      exact Pb hD hh hM ho (hr x) (hr y) hb hp
    · cases h
  ·
    rename_i op tx x ho
    split at h
    · rename_i c hx
      have hkx := hr x
      rw [hx] at hkx
      simp only [Option.some.injEq, Prod.mk.injEq] at h
      obtain ⟨rfl, rfl, rfl⟩ := h
      exact P7 hM ho hkx
    · rename_i k' n hx
      have hkx := hr x
      rw [hx] at hkx
      simp only [Option.some.injEq, Prod.mk.injEq] at h
      obtain ⟨rfl, rfl, rfl⟩ := h
      exact P6 hM ho hkx
    · cases h
  ·
    rename_i src dst x ho
    split at h
    · rename_i k' k'' n ht hx
      have hkx := hr x
      rw [hx] at hkx
      split at h
      · rename_i hs
        simp only [Option.some.injEq, Prod.mk.injEq] at h
        obtain ⟨rfl, rfl, rfl⟩ := h
        exact GD hD hM ho hs ht hkx
      · cases h
    · rename_i xs ht hx
      have hkx := hr x
      rw [hx] at hkx
      split at h
      · rename_i hs
        simp only [Option.some.injEq, Prod.mk.injEq] at h
        obtain ⟨rfl, rfl, rfl⟩ := h
        exact Gx hD hM ho hs ht hkx
      · cases h
    · cases h
  ·
    rename_i tx x i ho
    split at h
    · rename_i b' bd y ht hx
      have hkx := hr x
      rw [hx] at hkx
      split at h
      · rename_i e
        subst e
        split at h
        · rename_i t z hz
          simp only [Option.some.injEq, Prod.mk.injEq] at h
          obtain ⟨rfl, rfl, rfl⟩ := h
          exact Pp hD hM ho ht hkx hz (u9 hz)
        · cases h
      · cases h
    · cases h
  ·
    rename_i s x i ho
    split at h
    · rename_i bd ht
      split at h
      · rename_i j base p hx
        have hkx := hr x
        rw [hx] at hkx
        split at h
        · rename_i hta
          split at h
          · rename_i u hu
            simp only [Option.some.injEq, Prod.mk.injEq] at h
            obtain ⟨rfl, rfl, rfl⟩ := h
            exact Ds hD hM ho ht hkx hta hu
          · cases h
        · cases h
      · rename_i b' y hx
        have hkx := hr x
        rw [hx] at hkx
        split at h
        · rename_i e
          subst e
          split at h
          · rename_i t z hz
            simp only [Option.some.injEq, Prod.mk.injEq] at h
            obtain ⟨rfl, rfl, rfl⟩ := h
            exact DE hD hM ho ht hkx hz
          · cases h
        · cases h
      · cases h
    · cases h
  ·
    rename_i tx x i ho
    split at h
    · rename_i e k' n ht hi
      have hki := hr i
      rw [hi] at hki
      split at h
      · rename_i e' xs hx
        have hkx := hr x
        rw [hx] at hkx
        split at h
        · rename_i ee
          subst ee
          simp only [Option.some.injEq, Prod.mk.injEq] at h
          obtain ⟨rfl, rfl, rfl⟩ := h
          exact um hD hM ho ht hki hkx (hp _ (by simp))
        · cases h
      · rename_i e' xs hx
        have hkx := hr x
        rw [hx] at hkx
        split at h
        · rename_i ee
          subst ee
          simp only [Option.some.injEq, Prod.mk.injEq] at h
          obtain ⟨rfl, rfl, rfl⟩ := h
          exact um hD hM ho ht hki hkx.1 (hp _ (by simp))
        · cases h
      · rename_i j e' hx
        have hkx := hr x
        rw [hx] at hkx
        split at h
        · rename_i ee
          subst ee
          split at h
          · rename_i e'' xs hb
            split at h
            · rename_i ee'
              subst ee'
              simp only [Option.some.injEq, Prod.mk.injEq] at h
              obtain ⟨rfl, rfl, rfl⟩ := h
              exact E7 hD hM ho ht hki hkx hb (hp _ (by simp))
            · cases h
          · cases h
        · cases h
      · cases h
    · rename_i m e k' n ht hi
      have hki := hr i
      rw [hi] at hki
      split at h
      · rename_i m' e' xs hx
        have hkx := hr x
        rw [hx] at hkx
        split at h
        · rename_i ee
          obtain ⟨rfl, rfl⟩ := ee
          simp only [Option.some.injEq, Prod.mk.injEq] at h
          obtain ⟨rfl, rfl, rfl⟩ := h
          exact DB hD hM ho ht hki hkx (hp _ (by simp))
        · cases h
      · rename_i j base p hx
        have hkx := hr x
        rw [hx] at hkx
        split at h
        · rename_i hta
          simp only [Option.some.injEq, Prod.mk.injEq] at h
          obtain ⟨rfl, rfl, rfl⟩ := h
          exact D2 hD hM ho ht hki hkx hta (hp _ (by simp))
        · cases h
      · cases h
    · cases h
  ·
    rename_i tx x i ho
    split at h
    · rename_i m e m' e' xs k' n ht hx hi
      have hkx := hr x
      rw [hx] at hkx
      have hki := hr i
      rw [hi] at hki
      split at h
      · rename_i ee
        obtain ⟨rfl, rfl⟩ := ee
        simp only [Option.some.injEq, Prod.mk.injEq] at h
        obtain ⟨rfl, rfl, rfl⟩ := h
        exact J8 hD hM ho ht hki hkx (hp _ (by simp))
      · cases h
    · rename_i s k' n ht hx hi
      have hkx := hr x
      rw [hx] at hkx
      have hki := hr i
      rw [hi] at hki
      simp only [Option.some.injEq, Prod.mk.injEq] at h
      obtain ⟨rfl, rfl, rfl⟩ := h
      exact JT hD hM ho ht hki hkx (hp _ (by simp))
    · cases h
  ·
    rename_i x i ho
    split at h
    · rename_i t y hx
      have hkx := hr x
      rw [hx] at hkx
      split at h
      · rename_i u z hz
        simp only [Option.some.injEq, Prod.mk.injEq] at h
        obtain ⟨rfl, rfl, rfl⟩ := h
        exact Mf hM ho hkx hz
      · cases h
    · cases h
  ·
    rename_i tx x lo hi mx ho
    split at h
    · rename_i l hl
      have hlo := fd hr hl
      split at h
      · rename_i s ht hx
        have hkx := hr x
        rw [hx] at hkx
        split at h
        · rename_i hv hhi
          simp only [Option.some.injEq, Prod.mk.injEq] at h
          obtain ⟨rfl, rfl, rfl⟩ := h
          exact JY hD hM ho ht hkx hlo (fd hr hhi) (hp _ (by simp))
        · cases h
      · rename_i e e' xs ht hx
        have hkx := hr x
        rw [hx] at hkx
        split at h
        · rename_i ee
          subst ee
          split at h
          · rename_i hv hhi
            simp only [Option.some.injEq, Prod.mk.injEq] at h
            obtain ⟨rfl, rfl, rfl⟩ := h
            exact BY hD hM ho ht hkx hlo (fd hr hhi) (hp _ (by simp))
          · cases h
        · cases h
      · rename_i e e' xs ht hx
        have hkx := hr x
        rw [hx] at hkx
        split at h
        · rename_i ee
          subst ee
          split at h
          · rename_i hv hhi
            simp only [Option.some.injEq, Prod.mk.injEq] at h
            obtain ⟨rfl, rfl, rfl⟩ := h
            exact BY hD hM ho ht hkx.1 hlo (fd hr hhi) (hp _ (by simp))
          · cases h
        · cases h
      · rename_i m e m' e' xs ht hx
        have hkx := hr x
        rw [hx] at hkx
        split at h
        · rename_i ee
          obtain ⟨rfl, rfl⟩ := ee
          split at h
          · rename_i hv hhi
            simp only [Option.some.injEq, Prod.mk.injEq] at h
            obtain ⟨rfl, rfl, rfl⟩ := h
            exact Jo hD hM ho ht hkx hlo (fd hr hhi) (hp _ (by simp))
          · cases h
        · cases h
      · cases h
    · rename_i l mo hl
      have hlo := fd hr hl
      split at h
      · rename_i e ho' ht
        split at h
        · rename_i xs hv m hxs hhi hmo
          simp only [Option.some.injEq, Prod.mk.injEq] at h
          obtain ⟨rfl, rfl, rfl⟩ := h
          exact I4 hD hM ho ht (cu (hr x) hxs) hlo (jA (hr _) hhi) (jA (hr _) hmo) (hp (AW l 0) (by simp)) (hp (AW hv m) (by simp)) (hp _ (by simp))
        · cases h
      · cases h
    · cases h
  · rename_i c ho
    exact K1 hD hM hgl hr ho h' hp
  ·
    rename_i f first captured ho
    split at h
    · rename_i h0
      split at h
      · rename_i S hS
        split at h
        · rename_i a' h1 hc
          simp only [Option.some.injEq, Prod.mk.injEq] at h
          obtain ⟨rfl, rfl, rfl⟩ := h
          exact KU hD hM hgl ho h0 hS hr hc (hp _ (by simp))
        · cases h
      · cases h
    · cases h
  · cases h
end
end Go.Proofs.Ytimdnodkabnbfaa
namespace Go.Proofs.Ytimdnodkabnbfaa
open Go Go.RowKit
section
variable {P : Program} {D : aK} {o : Oper} {a : Act} {G : Gst} {w : World} {tm : Nat → Value}
theorem CD {t t' : Ty} {x : den t'} {y : den t} (h : d5 t t' x = some y) : ∃ e : t' = t, y = e ▸ x := cz h
structure Lb (P : Program) (G : Gst) (w : World) (e : Ty) (id n : Nat) (kn sp : List (den e)) : Prop where
 live : ∃ x, G.b id = .live x
 row : uY P G w id e n (kn ++ sp)
 hn : n ≤ kn.length
 full : ∀ n' zs, G.b id = .live (.full e n' zs) → sp = []
 put : ∀ (zs : List (den e)) (G' : Gst) (w' : World), zs.length = kn.length → uY P G' w' id e n (zs ++ sp) → fE P G' w' id (iu G.b e id zs)
theorem CN (hM : MemOk P G w) {e : Ty} {id n : Nat} {kn : List (den e)} (h : it G.b e id = some (n, kn)) : ∃ sp, Lb P G w e id n kn sp := by
 unfold it at h
 split at h
 ·rename_i e' xs hb
  split at h
  ·rename_i ys hc
   obtain ⟨ee, rfl⟩ := cz hc
   cases ee
   simp only [Option.some.injEq, Prod.mk.injEq] at h
   obtain ⟨rfl, rfl⟩ := h
   have hl := aq hb
   obtain ⟨sp, hr⟩ := zy.1 (hM.box id _ hl)
   refine ⟨sp, ⟨_, hl⟩, hr, Nat.le_refl _, fun n' zs h => (by rw [hl] at h; cases h), fun zs G' w' hlen hr' => ?_⟩
   unfold iu
   rw [hb]
   exact zy.2 ⟨sp, by rw [hlen]; exact hr'⟩
  ·cases h
 ·rename_i e' n' zs0 hb
  split at h
  ·rename_i ys hc
   obtain ⟨ee, rfl⟩ := cz hc
   cases ee
   simp only [Option.some.injEq, Prod.mk.injEq] at h
   obtain ⟨rfl, rfl⟩ := h
   have hl := aq hb
   have hr : uY P G w id e n' zs0 := hM.box id _ hl
   refine ⟨[], ⟨_, hl⟩, by rw [List.append_nil]; exact hr, ?_, fun _ _ _ => rfl, fun zs G' w' hlen hr' => ?_⟩
   ·rcases hr with ⟨_, rfl, _⟩ | ⟨_, _, _, _, _, _, _, _, h, _⟩
    ·exact Nat.zero_le _
    ·exact h
   ·unfold iu
    rw [hb]
    rw [List.append_nil] at hr'
    exact hr'
  ·cases h
 ·cases h
structure ED (P : Program) (G : Gst) (w : World) (e : Ty) (v : Vw e) (val : Value) (n0 : Nat) (sp : List (den e)) : Prop where
 row : Lb P G w e v.id n0 v.kn sp
 val : ∃ a', val = .slice a' v.n ((v.kn ++ sp).length - v.lo) ∧ v.lo + v.n ≤ (v.kn ++ sp).length ∧
  (G.bk v.id = none → (v.kn ++ sp).length = 0) ∧ ∀ g off, G.bk v.id = some g → G.hd v.id = .slice (some ⟨g, off, none⟩) n0 (v.kn ++ sp).length → v.lo < (v.kn ++ sp).length → a' = some ⟨g, off + v.lo * siz e, none⟩
theorem nV {id n : Nat} {e : Ty} {zs : List (den e)} (h : uY P G w id e n zs) : ∃ a, G.hd id = .slice a n zs.length ∧ n ≤ zs.length ∧ zs.length ≤ maxLen ∧ (G.bk id = none → zs = []) := by
 rcases h with ⟨rfl, rfl, hk, a, hh⟩ | ⟨g, arr, eid, off, hk, hh, _, _, hn, hm, _⟩
 ·exact ⟨a, hh, Nat.le_refl _, Nat.zero_le _, fun _ => rfl⟩
 ·exact ⟨_, hh, hn, hm, fun h => by rw [hk] at h; cases h⟩
theorem jJ (hM : MemOk P G w) {e : Ty} {k : K} {val : Value} (hk : KV P G w tm k val) {v : Vw e} (h : dK G.b e k = some v) : ∃ n0 sp, ED P G w e v val n0 sp := by
 unfold dK at h
 split at h
 ·rename_i id e0
  split at h
  ·rename_i n zs hr
   have e1 := (Option.some.inj h).symm
   subst e1
   obtain ⟨sp, ho⟩ := CN hM hr
   obtain ⟨a, hh, hn, hm, h0⟩ := nV ho.row
   refine ⟨n, sp, ho, a, ?_, by simpa using hn, fun hb => by rw [h0 hb]; rfl, fun g off hb hh' hlt => ?_⟩
   ·rw [hk.2, hh]; rfl
   ·rw [hh] at hh'
    injection hh' with e1
    rw [e1]
    simp
  ·cases h
 ·rename_i id e' lo n
  split at h
  ·rename_i ee
   subst ee
   split at h
   ·rename_i n0 zs hr
    have e1 := (Option.some.inj h).symm
    subst e1
    obtain ⟨sp, ho⟩ := CN hM hr
    obtain ⟨a, hh, hn, hm, h0⟩ := nV ho.row
    obtain ⟨_, a2, len, cap, h1, h2, a', h3, h4⟩ := hk
    rw [hh] at h1
    injection h1 with e1 e2 e3
    subst e1; subst e2; subst e3
    refine ⟨n0, sp, ho, a', h3, h2, fun hb => by rw [h0 hb]; rfl, fun g off hb hh' hlt => ?_⟩
    rw [hh] at hh'
    injection hh' with e1
    rw [h4 hlt, e1]
    simp [cS]
   ·cases h
  ·cases h
 ·cases h
theorem ED.cells {e : Ty} {v : Vw e} {val : Value} {n0 : Nat} {sp : List (den e)} (h : ED P G w e v val n0 sp) (hok : v.ok) : Src P G.av w e val v.part := by
 obtain ⟨a', hv, hle, hnone, hsome⟩ := h.val
 have hlen : v.part.length = v.n := by unfold Vw.part Vw.ok at *; simp; omega
 by_cases hn : v.n = 0
 ·have hp : v.part = [] := List.eq_nil_of_length_eq_zero (by omega)
  rw [hp]
  exact ⟨a', _, [], by rw [hv, hn]; rfl, by simp, rfl, fun h => absurd rfl h⟩
 ·rcases h.row.row with ⟨h1, _⟩ | ⟨g, arr, eid, off, hk, hh, _, hg, _, _, hs, hr⟩
  ·exfalso
   have := congrArg List.length h1
   unfold Vw.ok at hok
   simp only [List.length_append, List.length_nil] at this
   omega
  ·unfold Vw.ok at hok
   have hlt : v.lo < (v.kn ++ sp).length := by simp only [List.length_append]; omega
   have ha := hsome g off hk hh hlt
   have hA : arr.toList.length = arr.size := Array.length_toList
   have hfull : ((arr.toList.drop off).take ((v.kn ++ sp).length * siz e)).length = (v.kn ++ sp).length * siz e := by rw [List.length_take, List.length_drop, hA]; omega
   have hx := hr.take_drop v.lo (v.lo + v.n) (by simp only [List.length_append]; omega) hfull
   have hpart : ((v.kn ++ sp).take (v.lo + v.n)).drop v.lo = v.part := by
    unfold Vw.part
    rw [List.drop_take, Nat.add_sub_cancel_left, List.drop_append_of_le_length (by omega), List.take_append_of_le_length (by simp; omega)]
   rw [hpart] at hx
   have hm1 : (v.lo + v.n) * siz e ≤ (v.kn ++ sp).length * siz e := Nat.mul_le_mul_right _ hle
   rw [Nat.add_mul] at hm1
   have hL : (((arr.toList.drop off).take ((v.kn ++ sp).length * siz e)).take ((v.lo + v.n) * siz e)).drop (v.lo * siz e) = (arr.toList.drop (off + v.lo * siz e)).take (v.n * siz e) := by
    rw [List.take_take, Nat.min_eq_left (by rw [Nat.add_mul]; exact hm1), List.drop_take, List.drop_drop, Nat.add_mul, Nat.add_sub_cancel_left]
   rw [hL] at hx
   refine ⟨some ⟨g, off + v.lo * siz e, none⟩, _, _, by rw [hv, ha, hlen], ?_, hx, fun _ => ⟨_, rfl, fun j u hj => tI hg j u hj⟩⟩
   rw [List.length_take, List.length_drop, hA, hlen]
   omega
theorem jl {α : Type} {zs ys : List α} {i : Nat} (h : i + ys.length ≤ zs.length) : (over zs i ys).length = zs.length := by
 unfold over
 simp
 omega
theorem I9 {α : Type} {zs sp ys : List α} {i : Nat} (h : i + ys.length ≤ zs.length) : over (zs ++ sp) i ys = over zs i ys ++ sp := by
 unfold over
 rw [List.take_append_of_le_length (by omega), List.drop_append_of_le_length (by omega)]
 simp
theorem Ol {α : Type} {zs : List α} {i : Nat} : over zs i [] = zs := by
 unfold over
 simp
theorem RepAll.over {α : Type} {R : List Value → α → Prop} {s : Nat} {L M : List Value} {zs ys : List α} {i : Nat} (h : RepAll R s L zs) (hl : L.length = zs.length * s) (hm : M.length = ys.length * s) (hy : RepAll R s M ys) (hi : i + ys.length ≤ zs.length) :
    RepAll R s (aw L (i * s) M) (Go.Proofs.Ytimdnodkabnbfaa.over zs i ys) := by
  have hmul : i * s + ys.length * s ≤ zs.length * s := by rw [← Nat.add_mul]; exact Nat.mul_le_mul_right _ hi
  unfold aw Go.Proofs.Ytimdnodkabnbfaa.over
  have h1 := h.take_drop 0 i (by omega) hl
  have h2 := h.take_drop (i + ys.length) zs.length (Nat.le_refl _) hl
  rw [Nat.zero_mul, List.drop_zero, List.drop_zero] at h1
  rw [List.take_of_length_le (by omega), List.take_of_length_le (Nat.le_refl _), Nat.add_mul] at h2
  refine RepAll.append ?_ (RepAll.append ?_ h1 hy) (by rw [hm]; exact h2)
  · rw [List.length_append, List.length_append, List.length_take, List.length_take, hm]
    rw [Nat.min_eq_left (by omega), Nat.min_eq_left (by omega), Nat.add_mul]
  · rw [List.length_take, List.length_take, Nat.min_eq_left (by omega), Nat.min_eq_left (by omega)]
theorem Nh (hM : MemOk P G w) {e : Ty} {id n : Nat} {kn sp ys : List (den e)} (h : Lb P G w e id n kn sp) {i : Nat} (hi : i + ys.length ≤ kn.length) (hne : ys ≠ []) {L : List Value} (hl : L.length = ys.length * siz e) (hy : RepAll (Rep P e .cells G.av w) (siz e) L ys) :
    ∃ g arr eid off G', G.bk id = some g ∧ G.hd id = .slice (some ⟨g, off, none⟩) n (kn ++ sp).length ∧ RowObj e w.heap[g]? arr eid ∧ off + i * siz e + L.length ≤ arr.size ∧
      G'.b = aG G.b [(id, .live (iu G.b e id (over kn i ys)))] ∧ G'.hd = G.hd ∧ G'.bk = G.bk ∧ MemOk P G' (w.setRow g (aw arr.toList (off + i * siz e) L).toArray) ∧ G.Ext w G' (w.setRow g (aw arr.toList (off + i * siz e) L).toArray) := by
  have hpos : 0 < ys.length := List.length_pos_iff.2 hne
  rcases h.row with ⟨h1, _⟩ | ⟨g, arr, eid, off, hk, hh, hnb, hg, hn, hm, hs, hr⟩
  · exfalso
    have := congrArg List.length h1
    simp only [List.length_append, List.length_nil] at this
    omega
  · obtain ⟨x, hlive⟩ := h.live
    have hA : arr.toList.length = arr.size := Array.length_toList
    have hfull : ((arr.toList.drop off).take ((kn ++ sp).length * siz e)).length = (kn ++ sp).length * siz e := by rw [List.length_take, List.length_drop, hA]; omega
    have hi' : i + ys.length ≤ (kn ++ sp).length := by simp only [List.length_append]; omega
    have hmul : i * siz e + ys.length * siz e ≤ (kn ++ sp).length * siz e := by rw [← Nat.add_mul]; exact Nat.mul_le_mul_right _ hi'
    have hov := RepAll.over hr hfull hl hy hi'
    rw [I9 hi] at hov
    have hs2 : ((aw arr.toList (off + i * siz e) L).drop off).take ((kn ++ sp).length * siz e) = aw ((arr.toList.drop off).take ((kn ++ sp).length * siz e)) (i * siz e) L := by
      apply List.ext_getElem?
      intro j
      simp only [aw, List.append_assoc, List.getElem?_take, List.getElem?_append, List.length_take, List.getElem?_drop, List.length_drop, hA, hl]
      clear hov hr hfull
      generalize (kn ++ sp).length * siz e = N at *
      generalize i * siz e = M at *
      generalize ys.length * siz e = Q at *
      have m1 : min (off + M) arr.size = off + M := by omega
      have m2 : min M (min N (arr.size - off)) = M := by omega
      rw [m1, m2]
      repeat' split
      all_goals first
        | rfl
        | (exfalso; omega)
        | (congr 1; omega)
        | (rw [List.getElem?_eq_none_iff]; omega)
        | (rw [eq_comm, List.getElem?_eq_none_iff]; omega)
    have hturn := hM.turn hlive hk (x := iu G.b e id (over kn i ys)) (cs := (aw arr.toList (off + i * siz e) L).toArray) (fun G' w' e1 hE e2 e3 => by
      refine h.put _ G' w' (jl hi) (.inr ⟨g, (aw arr.toList (off + i * siz e) L).toArray, eid, off, e3, ?_, ?_, by rw [e1]; exact RowObj.set hg (by rw [List.size_toArray, eH (by rw [hl, hA]; omega), hA]), ?_, ?_, ?_, ?_⟩)
      · rw [e2, hh]; simp [jl hi]
      · unfold Gst.nb; rw [hE.w0, hE.own]; exact hnb
      · simpa [jl hi] using hn
      · simpa [jl hi] using hm
      · rw [List.size_toArray, eH (by rw [hl, hA]; omega), hA]
        simpa [jl hi] using hs
      · show RepAll _ _ (((aw arr.toList (off + i * siz e) L).drop off).take ((over kn i ys ++ sp).length * siz e)) _
        have e4 : (over kn i ys ++ sp).length = (kn ++ sp).length := by simp [jl hi]
        rw [e4, hs2]
        exact hov.imp fun _ _ r => r.lat hE.lat)
    exact ⟨g, arr, eid, off, G.turn id _, hk, hh, hg, by rw [hl]; omega, rfl, rfl, rfl, hturn.1, hturn.2⟩
theorem Ml {b : Nat → BS} {id : Nat} {x : BS} (h : b id = x) : aG b [(id, x)] = b := by
 funext n
 simp only [aG]
 split
 ·rename_i e; rw [e, h]
 ·rfl
theorem K6 {e : Ty} {id n : Nat} {kn : List (den e)} (h : it G.b e id = some (n, kn)) : G.b id = .live (iu G.b e id kn) := by
 unfold it at h
 split at h
 ·rename_i e' xs hb
  split at h
  ·rename_i ys hc
   obtain ⟨ee, rfl⟩ := cz hc
   cases ee
   simp only [Option.some.injEq, Prod.mk.injEq] at h
   obtain ⟨rfl, rfl⟩ := h
   rw [aq hb]
   unfold iu; rw [hb]
  ·cases h
 ·rename_i e' n' zs0 hb
  split at h
  ·rename_i ys hc
   obtain ⟨ee, rfl⟩ := cz hc
   cases ee
   simp only [Option.some.injEq, Prod.mk.injEq] at h
   obtain ⟨rfl, rfl⟩ := h
   rw [aq hb]
   unfold iu; rw [hb]
  ·cases h
 ·cases h
theorem A9 {b : Nat → BS} {e : Ty} {k : K} {v : Vw e} (h : dK b e k = some v) : ∃ n, it b e v.id = some (n, v.kn) := by
 unfold dK at h
 split at h
 ·split at h
  ·rename_i n zs hr
   have e1 := (Option.some.inj h).symm
   subst e1
   exact ⟨n, hr⟩
  ·cases h
 ·split at h
  ·split at h
   ·rename_i n zs hr
    have e1 := (Option.some.inj h).symm
    subst e1
    exact ⟨n, hr⟩
   ·cases h
  ·cases h
 ·cases h
theorem Cn (hM : MemOk P G w) {e : Ty} {k : K} {val : Value} (hk : KV P G w tm k val) {ys : List (den e)} {ps : List Prop} (h : uF G.b e k = some (ys, ps)) (hp : ∀ p ∈ ps, p) : Src P G.av w e val ys := by
 unfold uF at h
 split at h
 ·rename_i v hv
  simp only [Option.some.injEq, Prod.mk.injEq] at h
  obtain ⟨rfl, rfl⟩ := h
  obtain ⟨n0, sp, ho⟩ := jJ hM hk hv
  exact ho.cells (hp _ (by simp))
 ·split at h
  ·rename_i ys' hg
   simp only [Option.some.injEq, Prod.mk.injEq] at h
   obtain ⟨rfl, rfl⟩ := h
   exact BW (cu hk hg)
  ·cases h
theorem CQ (hM : MemOk P G w) {e : Ty} {v : Vw e} {val : Value} {n0 : Nat} {sp : List (den e)} (h : ED P G w e v val n0 sp) (hb : ∃ n, it G.b e v.id = some (n, v.kn)) {ys : List (den e)} {L : List Value} (hl : L.length = ys.length * siz e) (hy : RepAll (Rep P e .cells G.av w) (siz e) L ys) {i : Nat} (hi : v.lo + i + ys.length ≤ v.kn.length) :
    ∃ a' G' w', val = .slice a' v.n ((v.kn ++ sp).length - v.lo) ∧ (ys = [] → G' = G ∧ w' = w) ∧ (ys ≠ [] → ∃ g off, a' = some ⟨g, off, none⟩ ∧ (storeCells ⟨g, off + i * siz e, none⟩ L).run P w = .ok () w') ∧
      G'.b = aG G.b [(v.id, .live (iu G.b e v.id (over v.kn (v.lo + i) ys)))] ∧ G'.hd = G.hd ∧ G'.bk = G.bk ∧ MemOk P G' w' ∧ G.Ext w G' w' := by
  obtain ⟨a', hv, hle, hnone, hsome⟩ := h.val
  by_cases hne : ys = []
  · subst hne
    obtain ⟨n, hb⟩ := hb
    refine ⟨a', G, w, hv, fun _ => ⟨rfl, rfl⟩, fun h => absurd rfl h, ?_, rfl, rfl, hM, Gst.Ext.refl _ _⟩
    rw [Ol, Ml (K6 hb)]
  · have hpos : 0 < ys.length := List.length_pos_iff.2 hne
    obtain ⟨g, arr, eid, off, G', hk, hh, hg, hsz, h1, h2, h3, h4, h5⟩ := Nh hM h.row hi hne hl hy
    have ha := hsome g off hk hh (by simp only [List.length_append]; omega)
    refine ⟨a', G', _, hv, fun h => absurd h hne, fun _ => ⟨g, off + v.lo * siz e, ha, ?_⟩, h1, h2, h3, h4, h5⟩
    obtain ⟨fz, hg, hfz⟩ := hg.far
    have hst := io P g (off + (v.lo + i) * siz e) eid fz L 0 arr w hg hfz (by simpa using hsz) (p4 hy)
    simp only [Nat.add_zero] at hst
    have e1 : off + v.lo * siz e + i * siz e = off + (v.lo + i) * siz e := by rw [Nat.add_mul]; omega
    rw [e1, hst]
    rfl
theorem wm {n : Nat} (h : n ≤ maxLen) : InK .i64 (n : Int) := by
 have e1 : IntKind.i64.min = -9223372036854775808 := rfl
 have e2 : IntKind.i64.max = 9223372036854775807 := rfl
 unfold maxLen at h
 unfold InK
 exact ⟨by omega, by omega⟩
theorem FQ {α : Type} {ys : List α} {n : Nat} : (ys.take n).length = min ys.length n := by rw [List.length_take, Nat.min_comm]
theorem PF (hD : DOk P D) (hM : MemOk P G w) {c : Call} (ho : o.op = .call c) (hc : c.callee = .builtin .copy) {x y : Operand} (hx : c.args.toList = [x, y]) {t0 : TypeId} (h0 : c.argTypes[0]? = some t0) {e : Ty} (ht : D.ty t0 = some (.slc e)) {v : Vw e} {kx : K}
    (hkx : KV P G w tm kx (a.eval x)) (hv : dK G.b e kx = some v) {ys : List (den e)} (hs : Src P G.av w e (a.eval y) ys) (hok : v.ok) :
    ak P o a G w tm (.val ae (min ys.length v.n : Nat)) [(v.id, .live (iu G.b e v.id (over v.kn v.lo (ys.take v.n))))] := by
  obtain ⟨n0, sp, hvo⟩ := jJ hM hkx hv
  obtain ⟨ei, hu, hte, _⟩ := aY (hD.fit ht).shape
  have hsz := (hD.fit hte).sizeOf w
  obtain ⟨b0, c', L1, ey, hl1, hr1, hc1⟩ := hs
  unfold Vw.ok at hok
  have hlen : (ys.take v.n).length = min ys.length v.n := FQ
  have hL : (L1.take ((min ys.length v.n) * siz e)).length = (ys.take v.n).length * siz e := by
    rw [hlen, List.length_take, hl1, Nat.min_eq_left (Nat.mul_le_mul_right _ (Nat.min_le_left _ _))]
  have hR : RepAll (Rep P e .cells G.av w) (siz e) (L1.take ((min ys.length v.n) * siz e)) (ys.take v.n) := by
    have := hr1.take_drop 0 (min ys.length v.n) (Nat.min_le_left _ _) hl1
    rw [Nat.zero_mul, List.drop_zero, List.drop_zero] at this
    have e1 : ys.take (min ys.length v.n) = ys.take v.n := by
      rcases Nat.le_total ys.length v.n with h | h
      · rw [Nat.min_eq_left h, List.take_of_length_le (Nat.le_refl _), List.take_of_length_le h]
      · rw [Nat.min_eq_right h]
    rw [e1] at this
    exact this
  obtain ⟨a', G', w', hval, hnil, hst, h1, h2, h3, h4, h5⟩ := CQ hM hvo (A9 hv) hL hR (i := 0) (by rw [hlen]; omega)
  rw [Nat.add_zero] at h1
  obtain ⟨_, _, hm1, hm2, _⟩ := nV hvo.row.row
  have hmin : min ys.length v.n ≤ maxLen := by simp only [List.length_append] at hm2; omega
  have hargs : c.args.map a.eval = #[a.eval x, a.eval y] := by
    apply Array.ext'
    rw [Array.toList_map, hx]
    rfl
  have hkv : KV P G' w' tm (.val ae (min ys.length v.n : Nat)) (.int .i64 (min ys.length v.n : Nat)) := bj.2 ⟨rfl, wm hmin⟩
  refine bp (v := .int .i64 (min ys.length v.n : Nat)) ?_ h1 h5 h4 hkv
  rw [dR ho hc, hargs, hval, ey]
  have hmm : Nat.min ys.length v.n = min ys.length v.n := rfl
  by_cases hn : ys.take v.n = []
  · obtain ⟨rfl, rfl⟩ := hnil hn
    have hz : min ys.length v.n = 0 := by rw [← hlen, hn]; rfl
    cases a' <;> cases b0 <;> simp [builtin, Builtin.copy_, h0, run_underlying hu, hsz, Builtin.lenOf, hmm, hz, Builtin.firstCells, loadCells, loadCellsFrom, storeCells, goInt]
  · obtain ⟨g, off, rfl, hstore⟩ := hst hn
    have hyne : ys ≠ [] := by rintro rfl; simp at hn
    obtain ⟨ad, rfl, hcell⟩ := hc1 hyne
    have hf := run_firstCells_some (P := P) w (siz e) (min ys.length v.n) ad ys.length c' (L1.take ((min ys.length v.n) * siz e)) (by rw [hL, hlen]) (fun j u hj => hcell j u (by
      rw [List.getElem?_take] at hj
      split at hj
      · exact hj
      · cases hj))
    rw [Nat.zero_mul, Nat.add_zero] at hstore
    simp [builtin, Builtin.copy_, h0, run_underlying hu, hsz, Builtin.lenOf, hmm, hf, hstore, goInt]
theorem OU (hD : DOk P D) (hM : MemOk P G w) {c : Call} (ho : o.op = .call c) (hc : c.callee = .builtin .clear) {x : Operand} (hx : c.args.toList = [x]) {t0 : TypeId} (h0 : c.argTypes[0]? = some t0) {e : Ty} (ht : D.ty t0 = some (.slc e)) {v : Vw e} {kx : K}
    (hkx : KV P G w tm kx (a.eval x)) (hv : dK G.b e kx = some v) (hok : v.ok) :
    ak P o a G w tm .any [(v.id, .live (iu G.b e v.id (over v.kn v.lo (List.replicate v.n (zero e)))))] := by
  obtain ⟨n0, sp, hvo⟩ := jJ hM hkx hv
  obtain ⟨ei, hu, hte, _⟩ := aY (hD.fit ht).shape
  have hfe := hD.fit hte
  have hpl : plain e = true := (hD.fit ht).plain
  have hzc : (az e (aQ e)).cells = (aQ e).toArray := bK (bz e) (eW hfe) (eN P (fun _ => False) w e hpl).oneCell
  unfold Vw.ok at hok
  have hR : RepAll (Rep P e .cells G.av w) (siz e) (List.replicate v.n (aQ e)).flatten (List.replicate v.n (zero e)) := RepAll.replicate (bz e) (eN P _ _ e hpl) _
  obtain ⟨a', G', w', hval, hnil, hst, h1, h2, h3, h4, h5⟩ := CQ hM hvo (A9 hv) (L := (List.replicate v.n (aQ e)).flatten) (by simp [bz]) hR (i := 0) (by simpa using hok)
  rw [Nat.add_zero] at h1
  have hargs : c.args.map a.eval = #[a.eval x] := by
    apply Array.ext'
    rw [Array.toList_map, hx]
    rfl
  refine bp (v := .tuple #[]) ?_ h1 h5 h4 trivial
  rw [dR ho hc, hargs, hval]
  by_cases hn : v.n = 0
  · obtain ⟨rfl, rfl⟩ := hnil (by rw [hn]; rfl)
    rw [hn]
    cases a' <;> simp [builtin, Builtin.clear_, h0, run_underlying hu]
  · obtain ⟨g, off, rfl, hstore⟩ := hst (by intro h; have := congrArg List.length h; simp at this; omega)
    rw [Nat.zero_mul, Nat.add_zero] at hstore
    have hz := j9 (z := aQ e) v.n
    obtain ⟨k, hk⟩ : ∃ k, v.n = k + 1 := ⟨v.n - 1, by omega⟩
    rw [hk] at hz hstore ⊢
    simp [builtin, Builtin.clear_, h0, run_underlying hu, hfe.zeroValue w, hzc, hz, hstore]
end
end Go.Proofs.Ytimdnodkabnbfaa
namespace Go.Proofs.Ytimdnodkabnbfaa
open Go Go.RowKit
section
variable {P : Program} {D : aK} {o : Oper} {a : Act} {G : Gst} {w : World} {tm : Nat → Value}
theorem OB {e : Ty} {v : Vw e} {val : Value} {n0 : Nat} {sp : List (den e)} (h : ED P G w e v val n0 sp) {lo n : Nat} {a' : Option Addr} (hle : lo + n ≤ (v.kn ++ sp).length)
    (ha : ∀ g off, G.bk v.id = some g → G.hd v.id = .slice (some ⟨g, off, none⟩) n0 (v.kn ++ sp).length → lo < (v.kn ++ sp).length → a' = some ⟨g, off + lo * siz e, none⟩) :
    KV P G w tm (.vw v.id e lo n) (.slice a' n ((v.kn ++ sp).length - lo)) := by
  obtain ⟨x, hx⟩ := h.row.live
  obtain ⟨aa, hh, hn, hm, h0⟩ := nV h.row.row
  refine ⟨⟨x, .inl hx⟩, aa, n0, _, hh, hle, a', rfl, fun hlt => ?_⟩
  rcases h.row.row with ⟨h1, _⟩ | ⟨g, arr, eid, off, hk, hh', _⟩
  · have := congrArg List.length h1
    simp only [List.length_nil] at this
    omega
  · rw [ha g off hk hh' hlt]
    rw [hh] at hh'
    injection hh' with e1
    rw [e1]
    simp [cS]
theorem Lp (hD : DOk P D) (hM : MemOk P G w) {tx : TypeId} {x : Operand} {lo hi : Option Operand} (ho : o.op = .slice tx x lo hi none) {e : Ty} (ht : D.ty tx = some (.slc e)) {kx : K} (hkx : KV P G w tm kx (a.eval x)) {v : Vw e} (hv : dK G.b e kx = some v) {l h : Int}
    (hl : (lo = none ∧ l = 0) ∨ ∃ q k, lo = some q ∧ a.eval q = .int k l) (hh : (hi = none ∧ h = (v.n : Int)) ∨ ∃ q k, hi = some q ∧ a.eval q = .int k h) (hok : v.ok) (hc : bQ l h ((v.kn.length - v.lo : Nat) : Int)) :
    ak P o a G w tm (.vw v.id e (v.lo + l.toNat) (h.toNat - l.toNat)) [] := by
  obtain ⟨n0, sp, hvo⟩ := jJ hM hkx hv
  obtain ⟨a', hval, hle, hnone, hsome⟩ := hvo.val
  obtain ⟨ei, hun, hte, hse⟩ := aY (hD.fit ht).shape
  have hsz := (hD.fit hte).sizeOf w
  obtain ⟨c1, c2, c3⟩ := hc
  unfold Vw.ok at hok
  have hb := iU (P := P) (w := w) (isS := true) (len := v.n) (cap := (v.kn ++ sp).length - v.lo) (lo := lo.map a.eval) (hi := hi.map a.eval) (l := l) (h := h)
    (kX hl) (kX hh) ⟨c1, c2, by simp only [List.length_append]; omega⟩
  refine aC hM (v := .slice (if (v.kn ++ sp).length - v.lo = l.toNat then a' else a'.map (·.add (l.toNat * siz e))) (h.toNat - l.toNat) ((v.kn ++ sp).length - v.lo - l.toNat)) ?_ ?_
  · simp only [execOp, ho, hval, Instr.sliceAt, Instr.slice, Sem.run_bind, run_underlying hun, Result.andThen_ok, Option.map_none, hb, hsz, Sem.run_pure]
  · rw [Nat.sub_sub]
    refine OB hvo (by simp only [List.length_append]; omega) (fun g off hk hh' hlt => ?_)
    rw [if_neg (by omega), hsome g off hk hh' (by omega)]
    simp only [Option.map_some, cS]
    congr 2
    rw [Nat.add_mul]
    omega
theorem HQ (hD : DOk P D) (hM : MemOk P G w) {tx : TypeId} {x : Operand} {lo hi : Option Operand} {mo : Operand} (ho : o.op = .slice tx x lo hi (some mo)) {e : Ty} (ht : D.ty tx = some (.slc e)) {aa : Option Addr} {len cap : Nat} (hval : a.eval x = .slice aa len cap) {l h m : Int}
    (hl : (lo = none ∧ l = 0) ∨ ∃ q k, lo = some q ∧ a.eval q = .int k l) (hh : ∃ q k, hi = some q ∧ a.eval q = .int k h) (hm : ∃ k, a.eval mo = .int k m) (hc : bQ l h m) (hmc : m ≤ (cap : Int)) :
    ak P o a G w tm .any [] := by
  obtain ⟨ei, hun, hte, hse⟩ := aY (hD.fit ht).shape
  have hsz := (hD.fit hte).sizeOf w
  obtain ⟨c1, c2, c3⟩ := hc
  obtain ⟨q, k, rfl, eh⟩ := hh
  obtain ⟨k', em⟩ := hm
  have b1 := gU (P := P) (w := w) (k := k') (n := m) (y := cap) (code := .slice3Acap) ⟨by omega, hmc⟩
  have b2 := gU (P := P) (w := w) (k := k) (n := h) (y := m.toNat) (code := .slice3B) ⟨by omega, by omega⟩
  rcases hl with ⟨rfl, rfl⟩ | ⟨q2, k2, rfl, el⟩
  · refine aC hM (v := .slice (if m.toNat = 0 then aa else aa.map (·.add (0 * siz e))) (h.toNat - 0) (m.toNat - 0)) ?_ trivial
    simp [execOp, ho, hval, Instr.sliceAt, Instr.slice, run_underlying hun, Instr.sliceBounds, eh, em, b1, b2, hsz]
  · have b3 := gU (P := P) (w := w) (k := k2) (n := l) (y := h.toNat) (code := .slice3C) ⟨c1, by omega⟩
    refine aC hM (v := .slice (if m.toNat = l.toNat then aa else aa.map (·.add (l.toNat * siz e))) (h.toNat - l.toNat) (m.toNat - l.toNat)) ?_ trivial
    simp [execOp, ho, hval, Instr.sliceAt, Instr.slice, run_underlying hun, Instr.sliceBounds, eh, em, el, b1, b2, b3, hsz]
theorem Mo (hD : DOk P D) (hM : MemOk P G w) {c : Call} (ho : o.op = .call c) (hc : c.callee = .builtin .len) {x : Operand} (hx : c.args.toList = [x]) {at0 : TypeId} (h0 : c.argTypes[0]? = some at0) {e : Ty} (ht : D.ty at0 = some (.slc e)) {aa : Option Addr} {n cap : Nat} (hval : a.eval x = .slice aa n cap) (hn : n ≤ maxLen) :
    ak P o a G w tm (.val ae (n : Nat)) [] := by
  obtain ⟨ei, hun, _⟩ := aY (hD.fit ht).shape
  have hargs : c.args.map a.eval = #[a.eval x] := by
    apply Array.ext'
    rw [Array.toList_map, hx]
    rfl
  refine aC hM (v := .int .i64 n) ?_ (bj.2 ⟨rfl, wm hn⟩)
  rw [dR ho hc, hargs, hval]
  simp [builtin, Builtin.len_, h0, run_underlying hun, goInt]
theorem Qh (hD : DOk P D) (hM : MemOk P G w) {c : Call} (ho : o.op = .call c) (hc : c.callee = .builtin .cap) {x : Operand} (hx : c.args.toList = [x]) {at0 : TypeId} (h0 : c.argTypes[0]? = some at0) {e : Ty} (ht : D.ty at0 = some (.slc e)) {j : Nat} {e0 : Ty} (hk : KV P G w tm (.sl j e0) (a.eval x)) {xs : List (den e)} (hb : ao G.b j = some (.row e xs)) :
    ∃ sp : List (den e), (xs ++ sp).length ≤ maxLen ∧ ak P o a G w tm (.val ae ((xs ++ sp).length : Nat)) [(j, .live (.full e xs.length (xs ++ sp)))] := by
  obtain ⟨ei, hun, _⟩ := aY (hD.fit ht).shape
  have hl := aq hb
  obtain ⟨sp, hr⟩ := zy.1 (hM.box j _ hl)
  obtain ⟨aa, hh, hn, hm, _⟩ := nV hr
  refine ⟨sp, hm, ?_⟩
  have hargs : c.args.map a.eval = #[a.eval x] := by
    apply Array.ext'
    rw [Array.toList_map, hx]
    rfl
  let G' : Gst := { G with b := aG G.b [(j, .live (.full e xs.length (xs ++ sp)))] }
  have hav : ∀ g, G'.av g ↔ G.av g := fun g => by
    constructor
    · rintro (h | ⟨i, y, h1, h2⟩)
      · exact .inl h
      · by_cases e1 : i = j
        · subst e1; exact .inr ⟨i, _, hl, h2⟩
        · exact .inr ⟨i, y, by simpa [G', aG, e1] using h1, h2⟩
    · rintro (h | ⟨i, y, h1, h2⟩)
      · exact .inl h
      · by_cases e1 : i = j
        · subst e1; exact .inr ⟨i, .full e xs.length (xs ++ sp), by simp [G', aG], h2⟩
        · exact .inr ⟨i, y, by simpa [G', aG, e1] using h1, h2⟩
  have hE : G.Ext w G' w := ⟨⟨Nat.le_refl _, fun b _ hO => ⟨rfl, fun h => hO ((hav b).1 h)⟩⟩, fun i hi => ⟨rfl, rfl, by
    by_cases e1 : i = j
    · simp [G', aG, e1]
    · simpa [G', aG, e1] using hi⟩, ⟨fun _ h => h, fun _ h => .inl h⟩, rfl, rfl, fun _ _ _ => rfl⟩
  have hM' : MemOk P G' w := by
    refine ⟨hM.kept, hM.old, hM.dis, fun i y hi => ?_, fun i i' y z g h1 h2 k1 k2 => ?_, fun i y g hi ki => ?_⟩
    rotate_right
    · by_cases e1 : i = j
      · subst e1; exact hM.boxO i _ g hl ki
      · exact hM.boxO i y g (by simpa [G', aG, e1] using hi) ki
    · by_cases e1 : i = j
      · subst e1
        have : y = .full e xs.length (xs ++ sp) := by simpa [G', aG] using hi.symm
        subst this
        have hk : fE P G w i (.full e xs.length (xs ++ sp)) := hr
        exact hk.keep hE rfl rfl (fun _ _ => rfl)
      · exact (hM.box i y (by simpa [G', aG, e1] using hi)).keep hE rfl rfl (fun _ _ => rfl)
    · have live : ∀ i y, G'.b i = .live y → ∃ y', G.b i = .live y' := fun i y h => by
        by_cases e1 : i = j
        · exact ⟨_, e1 ▸ hl⟩
        · exact ⟨y, by simpa [G', aG, e1] using h⟩
      obtain ⟨y', h1⟩ := live i y h1
      obtain ⟨z', h2⟩ := live i' z h2
      exact hM.sep i i' y' z' g h1 h2 k1 k2
  refine bp (v := .int .i64 (xs ++ sp).length) (G' := G') (w' := w) ?_ rfl hE hM' (bj.2 ⟨rfl, wm hm⟩)
  rw [dR ho hc, hargs, hk.2, hh]
  simp [builtin, Builtin.cap_, h0, run_underlying hun, goInt]
theorem JI (hD : DOk P D) (hM : MemOk P G w) {c : Call} (ho : o.op = .call c) (hc : c.callee = .builtin .append) {x y : Operand} (hx : c.args.toList = [x, y]) {t : TypeId} (h0 : c.argTypes = #[t, t]) {e : Ty} (ht : D.ty t = some (.slc e)) {kx : K} (hkx : KV P G w tm kx (a.eval x)) {v : Vw e} (hv : dK G.b e kx = some v)
    {ys : List (den e)} (hs : Src P G.av w e (a.eval y) ys) (hok : v.ok) (hle : v.lo + v.n + ys.length ≤ v.kn.length) :
    ak P o a G w tm (.vw v.id e v.lo (v.n + ys.length)) [(v.id, .live (iu G.b e v.id (over v.kn (v.lo + v.n) ys)))] := by
  obtain ⟨n0, sp, hvo⟩ := jJ hM hkx hv
  obtain ⟨ei, hu, hte, _⟩ := aY (hD.fit ht).shape
  have hsz := (hD.fit hte).sizeOf w
  obtain ⟨b0, c', L1, ey, hl1, hr1, hc1⟩ := hs
  obtain ⟨a0, hval0, hle0, hnone, hsome⟩ := hvo.val
  obtain ⟨a', G', w', hval, hnil, hst, h1, h2, h3, h4, h5⟩ := CQ hM hvo (A9 hv) hl1 hr1 (i := v.n) (by omega)
  rw [hval0] at hval
  injection hval with ea _ _
  subst ea
  have hcap : v.n + ys.length ≤ (v.kn ++ sp).length - v.lo := by simp only [List.length_append]; omega
  have hkv : KV P G w tm (.vw v.id e v.lo (v.n + ys.length)) (.slice a0 (v.n + ys.length) ((v.kn ++ sp).length - v.lo)) := OB hvo (by simp only [List.length_append]; omega) hsome
  refine bp (v := .slice a0 (v.n + ys.length) ((v.kn ++ sp).length - v.lo)) ?_ h1 h5 h4 (hkv.ext h5)
  refine o9 ho hc hx h0 ?_
  rw [hval0, ey]
  by_cases hn : ys = []
  · obtain ⟨rfl, rfl⟩ := hnil hn
    subst hn
    exact lx hD ht (by simpa using hcap)
  · obtain ⟨g, off, rfl, hstore⟩ := hst hn
    obtain ⟨ad, rfl, hcell⟩ := hc1 hn
    have hf := run_firstCells_some (P := P) w (siz e) ys.length ad ys.length c' L1 hl1 hcell
    have hadd : (⟨g, off, none⟩ : Addr).add (v.n * siz e) = ⟨g, off + v.n * siz e, none⟩ := by rw [cS]
    generalize (v.kn ++ sp).length - v.lo = cc at *
    simp [Builtin.append_, run_underlying hu, hsz, Builtin.lenOf, hcap, hf, hadd, hstore]
theorem Fm (hD : DOk P D) (hM : MemOk P G w) {c : Call} (ho : o.op = .call c) (hc : c.callee = .builtin .append) {x y : Operand} (hx : c.args.toList = [x, y]) {t t' : TypeId} (h0 : c.argTypes = #[t, t']) {e : Ty} (ht : D.ty t = some (.slc e)) {ki : IntKind} (ht' : D.ty t' = some (.int ki)) {kx : K} (hkx : KV P G w tm kx (a.eval x)) {v : Vw e} (hv : dK G.b e kx = some v)
    {n : Int} {kq : IntKind} (hy : a.eval y = .int kq n) (hok : v.ok) (hlo : v.lo = 0) (hfull : ∃ n' zs, ao G.b v.id = some (.full e n' zs)) (hpos : 0 < n) (hg : v.kn.length < v.n + n.toNat) (hb : v.n + n.toNat ≤ bV) {id : Nat} (hf : aX G.b id = true) :
    ak P o a G w tm (.sl id e) [(id, .live (.row e (v.part ++ List.replicate n.toNat (zero e))))] := by
  obtain ⟨n0, sp, hvo⟩ := jJ hM hkx hv
  obtain ⟨ei, hu, hte, hse⟩ := aY (hD.fit ht).shape
  have hfe := hD.fit hte
  obtain ⟨i, z, hi, hs, hby, hz, ez⟩ := hfe.info
  have hpl : plain e = true := (hD.fit ht).plain
  have hzc : z.cells = (aQ e).toArray := by rw [ez]; exact bK (bz e) (eW hfe) (eN P (fun _ => False) w e hpl).oneCell
  obtain ⟨b0, c0, L0, ev, hl0, hr0, hc0⟩ := hvo.cells hok
  have hplen : v.part.length = v.n := by unfold Vw.part Vw.ok at *; simp; omega
  have hsp : sp = [] := by
    obtain ⟨n', zs, hl⟩ := hfull
    exact hvo.row.full n' zs (aq hl)
  obtain ⟨a1, hval, hle, hnone, hsome⟩ := hvo.val
  rw [hsp, List.append_nil, hlo, Nat.sub_zero] at hval
  rw [ev] at hval
  injection hval with e1 e2 e3
  subst e1; subst e3
  rw [hplen] at ev hl0
  obtain ⟨k, rfl⟩ : ∃ k : Nat, n = (k : Int) := ⟨n.toNat, by omega⟩
  simp only [Int.toNat_natCast] at hg hb ⊢
  have hbytes : (v.n + k) * i.bytes ≤ 140737488355328 := Nat.le_trans (Nat.mul_le_mul hb hby) (by decide)
  have hkb : k * i.bytes ≤ 281474976710656 := Nat.le_trans (Nat.mul_le_mul_right _ (Nat.le_add_left k v.n)) (by omega)
  have h63 : ((v.n + k : Nat) : Int) ≤ 9223372036854775807 := by unfold bV at hb; omega
  have hml : v.n + k ≤ maxLen := by unfold maxLen; unfold bV at hb; omega
  have hold : (Builtin.firstCells i.size v.n (.slice b0 v.n v.kn.length)).run P w.drew = .ok L0.toArray w.drew := by
    rw [hs]
    by_cases hp : v.part = []
    · have hn0 : v.n = 0 := by rw [← hplen, hp]; rfl
      have hL : L0 = [] := List.eq_nil_of_length_eq_zero (by rw [hl0, hn0, Nat.zero_mul])
      rw [hn0, hL]
      cases b0 <;> simp [Builtin.firstCells, loadCells, loadCellsFrom]
    · obtain ⟨ad, rfl, hcell⟩ := hc0 hp
      exact run_firstCells_some (P := P) w.drew (siz e) v.n ad v.n v.kn.length L0 hl0 (fun j u hj => hcell j u hj)
  have hr := Lib.run_append_grow_zeros (P := P) w t t' o.type ei i z kq ki hu (fD (hD.fit ht').shape) hi hz b0 v.n v.kn.length L0 hold k (by omega) (by rw [hs]; omega) hg h63 hkb (growslice_fits hg hbytes)
  have hzk : Builtin.zeroCells z.cells k = ((List.replicate k (aQ e)).flatten).toArray := by
    apply Array.ext'
    rw [hzc, j9]
  rw [hzk, hzc] at hr
  have hnew := wd (eid := ei) (e := e) (n := v.n) (m := k) (cap := grownCap w (v.n + k) v.kn.length ei) (L0 := L0) (L1 := (List.replicate k (aQ e)).flatten) (Z := Builtin.zeroCells (aQ e).toArray (grownCap w (v.n + k) v.kn.length ei - (v.n + k))) (xs := v.part) (ys := List.replicate k (zero e)) (id := id) hM (by rw [hl0, hplen]) (by simp [bz]) hplen.symm (by simp) hr0 (RepAll.replicate (bz e) (eN P _ _ e hpl) _) hpl (grownCap_ge w (v.n + k) v.kn.length ei) (grownCap_le_maxLen w (v.n + k) v.kn.length ei hml) (j9 _)
  have hadd := hM.add (P := P) (w' := w.drew.alloc (.cells (L0.toArray ++ ((List.replicate k (aQ e)).flatten).toArray ++ Builtin.zeroCells (aQ e).toArray (grownCap w (v.n + k) v.kn.length ei - (v.n + k))) ei)) ((Kept.drew w).trans (Kept.alloc w.drew _)) (id := id) (g := w.heap.size) (h := .slice (some ⟨w.heap.size, 0, none⟩) (v.n + k) (grownCap w (v.n + k) v.kn.length ei)) (x := .row e (v.part ++ List.replicate k (zero e))) (bP hf) (Nat.le_refl _) (fun G' hE hh hb _ => hnew G' hE hh hb)
  refine bp (v := .slice (some ⟨w.heap.size, 0, none⟩) (v.n + k) (grownCap w (v.n + k) v.kn.length ei)) ?_ rfl hadd.2 hadd.1 ⟨⟨.row e _, .inl (by simp [Gst.add]; rfl)⟩, by simp [Gst.add]⟩
  have hrun := dR (P := P) (w := w) (a := a) ho hc
  have hargs : c.args.map a.eval = #[a.eval x, a.eval y] := by
    apply Array.ext'
    rw [Array.toList_map, hx]
    rfl
  rw [hrun, hargs, h0, ev, hy]
  simp only [builtin, Sem.run_bind, hr, Result.andThen_ok, Sem.run_pure]
theorem Jz (hD : DOk P D) (hM : MemOk P G w) {tx : TypeId} {x : Operand} {lo hi : Option Operand} (ho : o.op = .slice tx x lo hi none) {m : Nat} {e : Ty} (ht : D.ty tx = some (.arr m e)) {j : Nat} {base : Ty} {p : List Sel} (hx : KV P G w tm (.ptr j base p) (a.eval x)) (hta : dg base p = some (.arr m e)) {l h : Int}
    (hl : (lo = none ∧ l = 0) ∨ ∃ q k, lo = some q ∧ a.eval q = .int k l) (hh : (hi = none ∧ h = (m : Int)) ∨ ∃ q k, hi = some q ∧ a.eval q = .int k h) (hc : bQ l h (m : Int)) : ak P o a G w tm (.asl j base p m e l.toNat (h.toNat - l.toNat)) [] := by
  obtain ⟨hu, hp, g, hg, ex⟩ := hx
  obtain ⟨ei, hun, hte, hse, hm⟩ := sn (hD.fit ht).shape
  have hsz := (hD.fit hte).sizeOf w
  obtain ⟨hc0, hc1, hc2⟩ := hc
  have hb := iU (P := P) (w := w) (isS := false) (len := m) (cap := m) (lo := lo.map a.eval) (hi := hi.map a.eval) (l := l) (h := h)
    (kX hl) (kX hh) ⟨hc0, hc1, by omega⟩
  refine aC hM (v := .slice (some (if m = l.toNat then ⟨g, i5 (G.hd j) + aJ base p, none⟩ else (⟨g, i5 (G.hd j) + aJ base p, none⟩ : Addr).add (l.toNat * siz e))) (h.toNat - l.toNat) (m - l.toNat)) ?_ ?_
  · simp only [execOp, ho, ex, Instr.sliceAt, Instr.sureAddr, Sem.run_bind, run_underlying hun, Result.andThen_ok, Option.map_none, hb, hsz, Sem.run_pure]
  · refine ⟨hu, ⟨hp, hta, by omega, by unfold maxLen; omega⟩, g, _, hg, rfl, fun hlt => ?_⟩
    rw [if_neg (by omega), cS]
def KP (P : Program) (O : Nat → Prop) (w : World) (e : Ty) (val : Value) (ys : List (den e)) : Prop :=
 ∃ L1 : List Value, L1.length = ys.length * siz e ∧ RepAll (Rep P e .cells O w) (siz e) L1 ys ∧ (Builtin.lenOf val).run P w = .ok ys.length w ∧
  ∀ k, k ≤ ys.length → (Builtin.firstCells (siz e) k val).run P w = .ok (L1.take (k * siz e)).toArray w
theorem O8 {e : Ty} {val : Value} {ys : List (den e)} (h : Src P G.av w e val ys) : KP P G.av w e val ys := by
 obtain ⟨b0, c', L1, ey, hl1, hr1, hc1⟩ := h
 refine ⟨L1, hl1, hr1, by rw [ey]; simp [Builtin.lenOf], fun k hk => ?_⟩
 have hlk : (L1.take (k * siz e)).length = k * siz e := by rw [List.length_take, hl1]; exact Nat.min_eq_left (Nat.mul_le_mul_right _ hk)
 rw [ey]
 by_cases hy : ys = []
 ·have hk0 : k = 0 := by rw [hy] at hk; exact Nat.le_zero.1 hk
  subst hk0
  cases b0 <;> simp [Builtin.firstCells, loadCells, loadCellsFrom]
 ·obtain ⟨ad, rfl, hcell⟩ := hc1 hy
  exact run_firstCells_some (P := P) w (siz e) k ad ys.length c' (L1.take (k * siz e)) hlk (fun j u hj => hcell j u (by
   rw [List.getElem?_take] at hj
   split at hj
   ·exact hj
   ·cases hj))
theorem zQ {O : Nat → Prop} : ∀ bs : List UInt8, RepAll (Rep P (.int .u8) .cells O w) 1 (bs.map fun b => Value.int .u8 (b.toNat : Int)) (bs.map fun b => (b.toNat : Int))
 | [] => rfl
 | b :: bs => by
  refine ⟨⟨rfl, ?_⟩, zQ bs⟩
  have := b.toNat_lt
  have e1 : IntKind.u8.min = 0 := rfl
  have e2 : IntKind.u8.max = 255 := rfl
  show IntKind.u8.min ≤ ((b.toNat : Nat) : Int) ∧ ((b.toNat : Nat) : Int) ≤ IntKind.u8.max
  exact ⟨by omega, by omega⟩
theorem NZ {s : ByteArray} : KP P G.av w (.int .u8) (.string s) (dP s) := by
 have hl : (dP s).length = s.size := by
  unfold dP
  rw [List.length_map, Array.length_toList]
  rfl
 refine ⟨s.data.toList.map fun b => .int .u8 (b.toNat : Int), by simp [dP, siz], zQ _, by rw [hl]; simp [Builtin.lenOf], fun k hk => ?_⟩
 have e : ((s.extract 0 k).data.map fun b => Value.int .u8 (b.toNat : Int)) = ((s.data.toList.map fun b => Value.int .u8 (b.toNat : Int)).take (k * siz (.int .u8))).toArray := by
  apply Array.ext'
  simp [siz, List.map_take, ByteArray.data_extract]
 simp only [Builtin.firstCells, Sem.run_pure]
 rw [← e]
theorem M7 (hM : MemOk P G w) {e : Ty} {k : K} {val : Value} (hk : KV P G w tm k val) {ys : List (den e)} {ps : List Prop} (h : Iv G.b e k = some (ys, ps)) (hp : ∀ p ∈ ps, p) : KP P G.av w e val ys := by
 unfold Iv at h
 split at h
 ·rename_i q hq
  have h := Option.some.inj h
  subst h
  exact O8 (Cn hM hk hq hp)
 ·split at h
  ·rename_i s _ _
   simp only [Option.some.injEq, Prod.mk.injEq] at h
   obtain ⟨rfl, rfl⟩ := h
   have : val = .string s := by
    obtain ⟨cs, ev, hr⟩ := hk
    obtain ⟨rfl, _⟩ := hr
    exact ev
   rw [this]
   exact NZ
  ·cases h
theorem Ln (hD : DOk P D) (hM : MemOk P G w) {c : Call} (ho : o.op = .call c) (hc : c.callee = .builtin .copy) {x y : Operand} (hx : c.args.toList = [x, y]) {t0 : TypeId} (h0 : c.argTypes[0]? = some t0) {e : Ty} (ht : D.ty t0 = some (.slc e)) {j : Nat} {base : Ty} {p : List Sel} {m lo n : Nat}
    (hkx : KV P G w tm (.asl j base p m e lo n) (a.eval x)) {z : den base} (hb : ao G.b j = some (.cell base z)) {old : List (den e)} (hold : bt (.arr m e) (nav (.val base z) p) = some old) {ys : List (den e)} (hs : KP P G.av w e (a.eval y) ys)
    {bx : Bx} (hup : Bx.upd (.cell base z) p (.val (.arr m e) (Go.Proofs.Ytimdnodkabnbfaa.over (α := den e) old lo (ys.take n))) = some bx) :
    ak P o a G w tm (.val ae (min ys.length n : Nat)) [(j, .live bx)] := by
  obtain ⟨_, ⟨hp, hta, hlo, hmax⟩, g, a', hg, hval, haddr⟩ := hkx
  have hbl := aq hb
  obtain ⟨ei, hu, hte, _⟩ := aY (hD.fit ht).shape
  have hsz := (hD.fit hte).sizeOf w
  obtain ⟨L1, hl1, hr1, hlen1, hfirst⟩ := hs
  obtain ⟨g', arr, eid, b1, b2, b3, b4, b5⟩ := hM.box j _ hbl
  rw [hg] at b1
  cases b1
  obtain ⟨hle, hnav⟩ := sC hta hp b4 hold
  obtain ⟨hol, hnr⟩ := hnav
  have hA : arr.toList.length = arr.size := Array.length_toList
  have hl4 := b4.length
  have hCl : ((arr.toList.drop (aJ base p)).take (siz (.arr m e))).length = siz (.arr m e) := by rw [List.length_take, List.length_drop]; omega
  have hk : (ys.take n).length = min ys.length n := FQ
  have hL : (L1.take (min ys.length n * siz e)).length = (ys.take n).length * siz e := by
    rw [hk, List.length_take, hl1, Nat.min_eq_left (Nat.mul_le_mul_right _ (Nat.min_le_left _ _))]
  have hR : RepAll (Rep P e .cells G.av w) (siz e) (L1.take (min ys.length n * siz e)) (ys.take n) := by
    have := hr1.take_drop 0 (min ys.length n) (Nat.min_le_left _ _) hl1
    rw [Nat.zero_mul, List.drop_zero, List.drop_zero] at this
    have e1 : ys.take (min ys.length n) = ys.take n := by
      rcases Nat.le_total ys.length n with h | h
      · rw [Nat.min_eq_left h, List.take_of_length_le (Nat.le_refl _), List.take_of_length_le h]
      · rw [Nat.min_eq_right h]
    rw [e1] at this
    exact this
  have hml : (ys.take n).length ≤ n := by rw [hk]; exact Nat.min_le_right _ _
  have hol : old.length = m := hol
  have hsa : siz (.arr m e) = m * siz e := rfl
  have hmul : lo * siz e + (ys.take n).length * siz e ≤ m * siz e := by rw [← Nat.add_mul]; exact Nat.mul_le_mul_right _ (by omega)
  have hov := RepAll.over (i := lo) hnr (by rw [hCl, hsa, hol]) hL hR (by rw [hol]; omega)
  have hrep : Rep P (.arr m e) .cells G.av w (aw ((arr.toList.drop (aJ base p)).take (siz (.arr m e))) (lo * siz e) (L1.take (min ys.length n * siz e))) (Go.Proofs.Ytimdnodkabnbfaa.over (α := den e) old lo (ys.take n)) :=
    ⟨by rw [jl (by rw [hol]; omega)]; exact hol, hov⟩
  have hupd : ∃ z', qW (.val (.arr m e) (Go.Proofs.Ytimdnodkabnbfaa.over (α := den e) old lo (ys.take n))) p base z = some z' ∧ bx = .cell base z' := by
    have hup : (match qW (.val (.arr m e) (Go.Proofs.Ytimdnodkabnbfaa.over (α := den e) old lo (ys.take n))) p base z with | some z => some (Bx.cell base z) | none => none) = some bx := hup
    split at hup
    · rename_i z' hz
      exact ⟨z', hz, (Option.some.inj hup).symm⟩
    · cases hup
  obtain ⟨z', hz, rfl⟩ := hupd
  obtain ⟨_, hrz⟩ := sx (k := .val (.arr m e) (Go.Proofs.Ytimdnodkabnbfaa.over (α := den e) old lo (ys.take n))) (u := .arr m e) (fun y' e' => by
    obtain ⟨_, rfl⟩ := iV e'
    exact hrep) hta hp b4 hz
  rw [kB (by rw [hL, hCl, hsa]; exact hmul) (by rw [hCl, hl4]; exact hle) (by rw [hCl])] at hrz
  generalize hLL : L1.take (min ys.length n * siz e) = L at *
  have hfit : aJ base p + lo * siz e + L.length ≤ arr.size := by rw [← hA, hl4, hL]; omega
  have hmn : min ys.length n ≤ m := Nat.le_trans (Nat.min_le_right _ _) (by omega)
  have hargs : c.args.map a.eval = #[a.eval x, a.eval y] := by
    apply Array.ext'
    rw [Array.toList_map, hx]
    rfl
  have hmm : Nat.min ys.length n = min ys.length n := rfl
  have hf := hfirst (min ys.length n) (Nat.min_le_left _ _)
  rw [hLL] at hf
  by_cases hn : min ys.length n = 0
  · have hL0 : L = [] := List.eq_nil_of_length_eq_zero (by rw [hL, hk, hn, Nat.zero_mul])
    have ht := hM.turn hbl hg (x := .cell base z') (cs := arr) (fun G' w' e1 hE e2 e3 => by
      refine ⟨g, arr, eid, e3, by unfold Gst.nb; rw [hE.w0, hE.own]; exact b2, by rw [e1, setRow_self w g arr eid (0, 0) b3]; exact b3, ?_, by rw [e2]; exact b5⟩
      rw [hL0] at hrz
      have es : aw arr.toList (aJ base p + lo * siz e) [] = arr.toList := by simp [aw]
      rw [es] at hrz
      exact hrz.lat hE.lat)
    rw [setRow_self w g arr eid (0, 0) b3] at ht
    have hkv : KV P (G.turn j (.cell base z')) w tm (.val ae (min ys.length n : Nat)) (.int .i64 (min ys.length n : Nat)) := bj.2 ⟨rfl, wm (by omega)⟩
    refine bp (v := .int .i64 (min ys.length n : Nat)) ?_ rfl ht.2 ht.1 hkv
    rw [dR ho hc, hargs, hval]
    rw [hn] at hf ⊢
    cases a' <;> simp [builtin, Builtin.copy_, h0, run_underlying hu, hsz, hlen1, hmm, hn, hf, hL0, storeCells, goInt]
  · have hlt : lo < m := by omega
    have ea := haddr hlt
    subst ea
    have ht := hM.turn hbl hg (x := .cell base z') (cs := (aw arr.toList (aJ base p + lo * siz e) L).toArray) (fun G' w' e1 hE e2 e3 => by
      refine ⟨g, _, eid, e3, by unfold Gst.nb; rw [hE.w0, hE.own]; exact b2, by rw [e1]; exact setRow_heap w g arr _ eid (0, 0) b3, ?_, by rw [e2]; exact b5⟩
      exact hrz.lat hE.lat)
    have hkv : KV P (G.turn j (.cell base z')) (w.setRow g (aw arr.toList (aJ base p + lo * siz e) L).toArray) tm (.val ae (min ys.length n : Nat)) (.int .i64 (min ys.length n : Nat)) := bj.2 ⟨rfl, wm (by omega)⟩
    have hst := io P g (aJ base p + lo * siz e) eid (0, 0) L 0 arr w b3 (.inl rfl) (by simpa using hfit) (p4 hR)
    simp only [Nat.add_zero] at hst
    refine bp (v := .int .i64 (min ys.length n : Nat)) ?_ rfl ht.2 ht.1 hkv
    rw [dR ho hc, hargs, hval, b5, Nat.zero_add]
    simp [builtin, Builtin.copy_, h0, run_underlying hu, hsz, hlen1, hmm, hf, hst, goInt, aw]
end
end Go.Proofs.Ytimdnodkabnbfaa
namespace Go.Proofs.Ytimdnodkabnbfaa
open Go Go.RowKit
section
variable {P : Program} {D : aK} {o : Oper} {a : Act} {G : Gst} {w : World} {tm : Nat → Value}
theorem A4 (hM : MemOk P G w) {k : K} {v : Value} (hk : KV P G w tm k v) {q : Bool ⊕ Prop} (h : FC G.b k = some q) : ∃ aa n c, v = .slice aa n c ∧ (∀ b, q = .inl b → aa.isNone = b) ∧ (∀ p, q = .inr p → aa.isNone = true → p) := by
 have key : ∀ {e : Ty} {xs : List (den e)}, aB P (.slc e) G.av w v xs → ∃ aa n c, v = .slice aa n c ∧ (aa.isNone = true → xs = []) := by
  rintro e xs ⟨cs, ev, aa, c, L, rfl, h2, h3, h4, h5, h6, h7⟩
  refine ⟨aa, xs.length, c, ev, fun hn => ?_⟩
  cases aa with
  | none => have := h7 rfl; exact List.eq_nil_of_length_eq_zero (by omega)
  | some ad => cases hn
 unfold FC at h
 split at h
 ·have e := (Option.some.inj h).symm
  subst e
  exact ⟨none, 0, 0, hk, (fun b h => by cases h; rfl), (fun p h => by cases h)⟩
 ·have e := (Option.some.inj h).symm
  subst e
  obtain ⟨aa, n, c, e1, e2⟩ := key hk
  exact ⟨aa, n, c, e1, (fun b h => by cases h), (fun p h => by cases h; exact e2)⟩
 ·have e := (Option.some.inj h).symm
  subst e
  obtain ⟨aa, n, c, e1, e2⟩ := key hk.1
  exact ⟨aa, n, c, e1, (fun b h => by cases h), (fun p h => by cases h; exact e2)⟩
 ·rename_i id e0
  split at h
  ·rename_i e' xs hb
   have e := (Option.some.inj h).symm
   subst e
   rcases hM.box id _ (aq hb) with ⟨rfl, _, aa, hh⟩ | ⟨g, arr, eid, off, sp, h1, hh, _⟩
   ·exact ⟨aa, 0, 0, by rw [hk.2, hh], (fun b h => by cases h), (fun p h _ => by cases h; rfl)⟩
   ·exact ⟨_, _, _, by rw [hk.2, hh], (fun b h => by cases h), (fun p h hn => by cases hn)⟩
  ·cases h
 ·cases h
theorem Hb (hD : DOk P D) (hM : MemOk P G w) {tx ty : TypeId} {x y : Operand} {neq : Bool} (ho : o.op = .binOp (if neq then .neq else .eql) tx x y ty) {e : Ty} (ht : D.ty tx = some (.slc e)) {aa : Option Addr} {n c : Nat} (hx : a.eval x = .slice aa n c) (hy : a.eval y = .slice none 0 0) :
    ak P o a G w tm (.val .bool (if neq then !aa.isNone else aa.isNone)) [] := by
  obtain ⟨ei, hu, _⟩ := aY (hD.fit ht).shape
  refine aC hM (v := .bool (if neq then !aa.isNone else aa.isNone)) ?_ (bA.2 rfl)
  have hg := fy (P := P) (w := w) (if neq then .neq else .eql) tx x y (vx := .slice aa n c) (vy := .slice none 0 0) (fun _ _ e => by cases e) (by simp)
  cases neq
  · simp only [Bool.false_eq_true, if_false] at *
    simp only [execOp, ho, hx, hy, Sem.run_bind, hg, Result.andThen_ok, Lib.run_eql_slice_nil w tx ei aa n c 0 0 hu, Sem.run_pure]
  · simp only [if_true] at *
    simp only [execOp, ho, hx, hy, Sem.run_bind, hg, Result.andThen_ok, run_neq_slice_nil_any w tx ei aa n c 0 0 hu, Sem.run_pure]
theorem Bh : ∀ {c : K} {i : Nat} {vs : List Value}, KV P G w tm c (.tuple vs.toArray) → (∀ v, vs[i]? = some v → KV P G w tm (sS c i) v) ∧ (vs[i]? = none → sS c i = .any) := by
 intro c
 induction c with
 | kcons p q _ ihq =>
  intro i vs h
  obtain ⟨x, xs, e, h1, h2⟩ := h
  have e : vs = x :: xs := by injection e with e; simpa using congrArg Array.toList e
  subst e
  cases i with
  | zero => exact ⟨fun v hv => by cases hv; exact h1, fun h => by cases h⟩
  | succ i => exact ihq h2
 | _ => intro i vs h; exact ⟨fun v hv => (by cases i <;> exact trivial), fun _ => (by cases i <;> rfl)⟩
theorem zk : ∀ {c : K} {i : Nat} {vs : List Value}, KV P G w tm c (.tuple vs.toArray) → vs[i]? = none → Id c i = false := by
 intro c
 induction c with
 | kcons p q _ ihq =>
  intro i vs h hv
  obtain ⟨x, xs, e, h1, h2⟩ := h
  have e : vs = x :: xs := by injection e with e; simpa using congrArg Array.toList e
  subst e
  cases i with
  | zero => cases hv
  | succ i => exact ihq h2 hv
 | _ => intro i vs h hv; cases i <;> rfl
theorem Dm (hM : MemOk P G w) {x : Operand} {i : Nat} (ho : o.op = .extract x i) {p q : K} (hx : KV P G w tm (.kcons p q) (a.eval x)) (hi : Id (.kcons p q) i = true) : ak P o a G w tm (sS (.kcons p q) i) [] := by
 obtain ⟨y, ys, e, h1, h2⟩ := hx
 have hx : KV P G w tm (.kcons p q) (.tuple (y :: ys).toArray) := ⟨y, ys, rfl, h1, h2⟩
 have hg := Bh (i := i) hx
 cases hv : (y :: ys)[i]? with
 | none => exact absurd hi (by rw [zk hx hv]; simp)
 | some v =>
  have hv' : (y :: ys).toArray[i]? = some v := by simpa using hv
  refine aC hM (v := v) ?_ (hg.1 v hv)
  simp only [execOp, ho, e, Instr.extract, hv', Sem.run_bind, Sem.run_pure, Result.andThen_ok]
theorem H5 {r : Operand → K} (hr : ∀ x, KV P G w tm (r x) (a.eval x)) : ∀ l : List Operand, KV P G w tm (ql (l.map r)) (.tuple (l.map a.eval).toArray)
 | [] => rfl
 | x :: l => ⟨a.eval x, l.map a.eval, rfl, hr x, H5 hr l⟩
theorem Qc (hM : MemOk P G w) {f : FuncId} {first captured : Array Operand} (ho : o.op = .makeFunc (.func f) first captured) (h0 : first.size = 0) {r : Operand → K} (hr : ∀ x, KV P G w tm (r x) (a.eval x)) :
    ak P o a G w tm (.clo f (ql (captured.toList.map r))) [] := by
  have e0 : first = #[] := Array.size_eq_zero_iff.1 h0
  have e : captured.map a.eval = (captured.toList.map a.eval).toArray := by apply Array.ext'; simp
  refine aC hM (v := .func (.func f) #[] (captured.toList.map a.eval).toArray) ?_ ⟨_, H5 hr _, rfl⟩
  simp only [execOp, ho, Instr.makeFunc, Sem.run_bind, Sem.run_pure, Result.andThen_ok, e0, e, List.map_toArray, List.map_nil]
theorem Nl (hM : MemOk P G w) {t : Ty} {k : K} {v : Value} {x : den t} (hk : KV P G w tm k v) (h : asB G.b t k = some x) : aB P t G.O w v x := by
 unfold asB at h
 split at h
 ·rename_i e id e0
  split at h
  ·rename_i e' xs hb
   obtain ⟨ee, rfl⟩ := cz h
   cases ee
   rw [hk.2]
   exact aB.lat (pN (G.drop id) w) (mq hM (aq hb))
  ·cases h
 ·exact aB.lat (pN G w) (cu hk h)
theorem O3 (hM : MemOk P G w) {r : Operand → K} (hr : ∀ x, KV P G w tm (r x) (a.eval x)) : ∀ (t : Ty) (l : List Operand) (x : den t), oJ G.b t (l.map r) = some x → Rep P t .chain G.O w (l.map a.eval) x := by
 intro t
 induction t with
 | unit =>
  intro l x h
  cases l with
  | nil => rfl
  | cons q l => cases h
 | pair t b _ ihb =>
  intro l x h
  cases l with
  | nil => cases h
  | cons q l =>
   have h' : (match asB G.b t (r q), oJ G.b b (l.map r) with | some x, some y => some (x, y) | _, _ => none) = some x := h
   split at h'
   ·rename_i x1 x2 h1 h2
    have e := (Option.some.inj h').symm
    subst e
    obtain ⟨cs, ev, hc⟩ := Nl hM (hr q) h1
    exact ⟨l.map a.eval, cs, by rw [List.map_cons, ev], hc, ihb l x2 h2⟩
   ·cases h'
 | _ => intro l x h; cases l <;> cases h
theorem Hf {O O' : Nat → Prop} {w w' : World} : ∀ {t : Ty}, eZ t = true → ∀ {m : NW} {cs : List Value} {x : den t}, Rep P t m O w cs x → Rep P t m O' w' cs x := by
 intro t
 induction t with
 | int k => intro _ m cs x h; cases m <;> exact h
 | bool => intro _ m cs x h; cases m <;> exact h
 | str => intro _ m cs x h; cases m <;> exact h
 | unit => intro _ m cs x h; cases m <;> exact h
 | pair a b iha ihb =>
  intro hf m cs x h
  simp only [eZ, Bool.and_eq_true] at hf
  cases m with
  | cells => exact ⟨iha hf.1 h.1, ihb hf.2 h.2⟩
  | chain => obtain ⟨rest, cs', e, h1, h2⟩ := h; exact ⟨rest, cs', e, iha hf.1 h1, ihb hf.2 h2⟩
  | result => obtain ⟨rest, cs', e, h1, h2⟩ := h; exact ⟨rest, cs', e, iha hf.1 h1, ihb hf.2 h2⟩
 | st b ih => intro hf m cs x h; cases m <;> first | exact ih hf h | exact h
 | arr n e ih => intro hf m cs x h; cases m <;> first | exact ⟨h.1, h.2.imp fun _ _ k => ih hf k⟩ | exact h
 | _ => intro hf; cases hf
theorem N9 (hD : DOk P D) (hM : MemOk P G w) (hgl : GlobOk P D.G G.av w) {c : Call} (ho : o.op = .call c) {f : FuncId} (hc : c.callee = .value (.func f)) {S : bq} (hS : D.F.lookup f = some S) (hf : eZ S.rs = true) {r : Operand → K} (hr : ∀ x, KV P G w tm (r x) (a.eval x)) {x : den S.as} (hx : oJ G.b S.as (c.args.toList.map r) = some x) (hp : S.pre x) :
    ak P o a G w tm (vP S.rs (S.g x)) [] := by
  have hok := hD.fns f S hS
  have hcall := hok.does G.O w _ x (fun g h => o4 hM (.inl h)) (hgl.lat (pN G w)) (O3 hM hr _ _ _ hx) hp
  refine rW (f := f) (args := (c.args.toList.map a.eval).toArray) hM ?_ (hcall.mono fun e w' ⟨v, h1, h2, h3⟩ => ⟨v, h1, h2, Hf hf h3⟩)
  have e : c.args.map a.eval = (c.args.toList.map a.eval).toArray := by apply Array.ext'; simp
  simp only [execOp, ho, resolve, hc, Act.eval, Deferred.ofValue, Sem.run_bind, Sem.run_pure, Result.andThen_ok, invoke, Array.append_empty, Array.empty_append]
  rw [e]
  exact hok.can _ _
theorem Py (hM : MemOk P G w) {t : Ty} {k : K} {v : Value} {x : den t} (hk : KV P G w tm k v) (h : Ap G.b t k = some x) : aB P t G.O w v x := by
 unfold Ap at h
 split at h
 ·rename_i t id base
  split at h
  ·rename_i u y hb
   obtain ⟨ee, rfl⟩ := cz h
   cases ee
   obtain ⟨_, _, g, hg, hv⟩ := hk
   have hbl := aq hb
   have hoff : aJ base [] = 0 := by cases base <;> rfl
   rw [hoff] at hv
   obtain ⟨_, _, _, _, _, _, _, ho0⟩ := hM.box id _ hbl
   rw [ho0] at hv
   obtain ⟨L, d1, d2, d3, d4⟩ := Gf hM hbl hg
   have hl := pN (G.drop id) w
   exact ⟨[v], rfl, ⟨g, 0, none⟩, L, by rw [hv], (hl.keep g d2 d1).2, d2, d3, d4.lat hl⟩
  ·cases h
 ·exact aB.lat (pN G w) (cu hk h)
theorem N2 (hM : MemOk P G w) : ∀ (t : Ty) (k : K) (x : den t) (vs : List Value), KV P G w tm k (.tuple vs.toArray) → qg G.b t k = some x → Rep P t .chain G.O w vs x := by
 intro t
 induction t with
 | unit =>
  intro k x vs hk h
  cases k <;> first | cases h | skip
  have e : vs = [] := by
   have : Value.tuple vs.toArray = Value.tuple #[] := hk
   injection this with this
   simpa using this
  exact e
 | pair t b _ ihb =>
  intro k x vs hk h
  cases k <;> first | cases h | skip
  rename_i k ks
  have h' : (match Ap G.b t k, qg G.b b ks with | some x, some y => some (x, y) | _, _ => none) = some x := h
  split at h'
  ·rename_i x1 x2 h1 h2
   have e := (Option.some.inj h').symm
   subst e
   obtain ⟨y, ys, e1, k1, k2⟩ := hk
   have e1 : vs = y :: ys := by injection e1 with e1; simpa using e1
   subst e1
   obtain ⟨cs, ev, hc⟩ := Py hM k1 h1
   exact ⟨ys, cs, by rw [ev], hc, ihb ks x2 ys k2 h2⟩
  ·cases h'
 | _ => intro k x vs hk h; cases k <;> cases h
theorem Kt (hM : MemOk P G w) {r : Operand → K} (hr : ∀ x, KV P G w tm (r x) (a.eval x)) {cap : K} {vs : List Value} (hc : KV P G w tm cap (.tuple vs.toArray)) : ∀ (l : List Operand) (t : Ty) (x : den t), ka G.b t (l.map r) cap = some x → Rep P t .chain G.O w (l.map a.eval ++ vs) x
 | [], t, x, h => by
  have h : qg G.b t cap = some x := by cases t <;> exact h
  exact N2 hM t cap x vs hc h
 | q :: l, t, x, h => by
  cases t <;> first | cases h | skip
  rename_i t b
  have h' : (match asB G.b t (r q), ka G.b b (l.map r) cap with | some x, some y => some (x, y) | _, _ => none) = some x := h
  split at h'
  ·rename_i x1 x2 h1 h2
   have e := (Option.some.inj h').symm
   subst e
   obtain ⟨cs, ev, hc'⟩ := Nl hM (hr q) h1
   exact ⟨l.map a.eval ++ vs, cs, by rw [List.map_cons, List.cons_append, ev], hc', Kt hM hr hc l b x2 h2⟩
  ·cases h'
theorem PV (hD : DOk P D) (hM : MemOk P G w) (hgl : GlobOk P D.G G.av w) {c : Call} (ho : o.op = .call c) {q : Operand} (hc : c.callee = .value q) {f : FuncId} {cap : K} (hq : KV P G w tm (.clo f cap) (a.eval q)) {S : bq} (hS : D.F.lookup f = some S) (hf : eZ S.rs = true) {r : Operand → K} (hr : ∀ x, KV P G w tm (r x) (a.eval x)) {x : den S.as} (hx : ka G.b S.as (c.args.toList.map r) cap = some x) (hp : S.pre x) :
    ak P o a G w tm (vP S.rs (S.g x)) [] := by
  have hok := hD.fns f S hS
  obtain ⟨vs, hcap, ev⟩ := hq
  have hcall := hok.does G.O w _ x (fun g h => o4 hM (.inl h)) (hgl.lat (pN G w)) (Kt hM hr hcap _ _ _ hx) hp
  refine rW (f := f) (args := (c.args.toList.map a.eval ++ vs).toArray) hM ?_ (hcall.mono fun e w' ⟨v, h1, h2, h3⟩ => ⟨v, h1, h2, Hf hf h3⟩)
  have e : c.args.map a.eval ++ vs.toArray = (c.args.toList.map a.eval ++ vs).toArray := by apply Array.ext'; simp
  simp only [execOp, ho, resolve, hc, ev, Deferred.ofValue, Sem.run_bind, Sem.run_pure, Result.andThen_ok, invoke, Array.empty_append]
  rw [e]
  exact hok.can _ _
def rowG (O : Nat → Prop) (w : World) (hv : Value) (bk : Option Nat) (b : BS) : Gst :=
 { hd := fun _ => hv, bk := fun n => if n = 0 then bk else none, b := fun n => if n = 0 then b else .no, O, w0 := w, own := fun g => bk = some g }
structure mB (P : Program) (Gl : gQ) (f : FuncId) (S : d6) : Prop where
 can : gx P f
 ret : S.ret = true
 does : ∀ (O : Nat → Prop) (w : World) (hv : Value) (bk : Option Nat) (xs : List (den S.e)) (vs : List Value) (y : den S.as),
  (S.arg = false → xs = [] ∧ bk = none) →
  MemOk P (rowG O w hv bk (if S.arg then .live (.row S.e xs) else .no)) w → GlobOk P Gl (rowG O w hv bk (if S.arg then .live (.row S.e xs) else .no)).av w →
  Rep P S.as .chain (rowG O w hv bk (if S.arg then .live (.row S.e xs) else .no)).av w vs y → S.pre xs y →
  Calls P f ((if S.arg then [hv] else []) ++ vs).toArray w fun e w' => ∃ v' G' i, e = .returned v' ∧ MemOk P G' w' ∧ G'.O = O ∧ G'.w0 = w ∧ (G'.own = fun g => bk = some g) ∧ G'.b i = .live (.row S.e (S.g xs y)) ∧ G'.hd i = v'
theorem MU (hM : MemOk P G w) {Gl : gQ} (hgl : GlobOk P Gl G.av w) {c : Call} (ho : o.op = .call c) {f : FuncId} (hc : c.callee = .value (.func f)) {S : d6} (hS : mB P Gl f S) (harg : S.arg = true) {x : Operand} {l : List Operand} (hx : c.args.toList = x :: l) {kx : K} (hkx : KV P G w tm kx (a.eval x)) {v : Vw S.e} (hv : dK G.b S.e kx = some v)
    {r : Operand → K} (hr : ∀ x, KV P G w tm (r x) (a.eval x)) {y : den S.as} (hy : dE S.as (l.map r) = some y) (hok : v.ok) (hp : S.pre v.part y) {id : Nat} (hf : aX G.b id = true) :
    ak P o a G w tm (.sl id S.e) [(v.id, .dead), (id, .live (.row S.e (S.g v.part y)))] := by
  obtain ⟨n0, sp, hvo⟩ := jJ hM hkx hv
  obtain ⟨a', hval, hle, hnone, hsome⟩ := hvo.val
  obtain ⟨bx, hlive⟩ := hvo.row.live
  have hid := bP hf
  have hne : id ≠ v.id := fun e => by rw [e, hlive] at hid; cases hid
  unfold Vw.ok at hok
  have hplen : v.part.length = v.n := by unfold Vw.part; simp; omega
  obtain ⟨bk, hbk, hbk2⟩ : ∃ bk : Option Nat, (bk = none ∨ bk = G.bk v.id) ∧ ((bk = none ∧ v.part = [] ∧ a.eval x = .slice a' 0 0) ∨ (bk = G.bk v.id ∧ v.lo < (v.kn ++ sp).length)) := by
    by_cases hlt : v.lo < (v.kn ++ sp).length
    · exact ⟨_, .inr rfl, .inr ⟨rfl, hlt⟩⟩
    · have h1 : v.n = 0 := by omega
      refine ⟨none, .inl rfl, .inl ⟨rfl, List.eq_nil_of_length_eq_zero (by omega), ?_⟩⟩
      rw [hval, h1, Nat.sub_eq_zero_of_le (by omega)]
  let Oc : Nat → Prop := fun g => G.O g ∨ ∃ i x, i ≠ v.id ∧ G.b i = .live x ∧ G.bk i = some g
  have hOc : ∀ g, Oc g → g < w.heap.size ∧ G.av g := fun g h => by
    rcases h with h | ⟨i, x, _, h1, h2⟩
    · exact ⟨hM.old g h, .inl h⟩
    · exact ⟨(fK hM h1 h2).1, .inr ⟨i, x, h1, h2⟩⟩
  have hdis : ∀ g, bk = some g → ¬ Oc g ∧ G.av g ∧ g < w.heap.size := fun g hg => by
    have hk : G.bk v.id = some g := by rcases hbk with h | h <;> rw [h] at hg <;> first | exact hg | cases hg
    refine ⟨?_, .inr ⟨_, _, hlive, hk⟩, (fK hM hlive hk).1⟩
    rintro (h | ⟨i, x, h0, h1, h2⟩)
    · exact (Gst.drop_not_av hM hlive hk) (.inl h)
    · exact h0 (hM.sep i v.id x bx g h1 hlive h2 hk)
  let G0 := rowG Oc w (a.eval x) bk (if S.arg then .live (.row S.e v.part) else .no)
  have hG0b : G0.b 0 = .live (.row S.e v.part) := by show (if S.arg then _ else _) = _; rw [harg]; rfl
  have hav0 : ∀ g, G0.av g → G.av g := by
    rintro g (h | ⟨i, z, h1, h2⟩)
    · exact (hOc g h).2
    · by_cases e : i = 0
      · subst e; exact (hdis g h2).2.1
      · simp [G0, rowG, e] at h1
  have hlat0 : Lat G.av w G0.av w := ⟨Nat.le_refl _, fun b _ h => ⟨rfl, fun h' => h (hav0 b h')⟩⟩
  have hM0 : MemOk P G0 w := by
    refine ⟨(Kept.refl w).x _, fun g h => (hOc g h).1, fun g h => ⟨(hdis g h).1, (hdis g h).2.2⟩, fun i z hi => ?_, fun i j y z g hi hj _ _ => ?_, fun i z g hi ki => ?_⟩
    rotate_right
    · by_cases e : i = 0
      · subst e; exact (hdis g ki).1
      · simp [G0, rowG, e] at hi
    · by_cases e : i = 0
      · subst e
        rw [hG0b] at hi
        cases hi
        rcases hbk2 with ⟨e1, e2, e3⟩ | ⟨e1, hlt⟩
        · exact .inl ⟨e2, e1, a', e3⟩
        · rcases hvo.row.row with ⟨h1, _⟩ | ⟨g, arr, eid, off, hk, hh, hnb, hg, hn, hm, hs, hrp⟩
          · have := congrArg List.length h1; simp only [List.length_nil] at this; omega
          · have hA : arr.toList.length = arr.size := Array.length_toList
            have hfull : ((arr.toList.drop off).take ((v.kn ++ sp).length * siz S.e)).length = (v.kn ++ sp).length * siz S.e := by rw [List.length_take, List.length_drop, hA]; omega
            have hx := hrp.take_drop v.lo (v.kn ++ sp).length (Nat.le_refl _) hfull
            rw [List.take_of_length_le (Nat.le_refl _), List.take_of_length_le (by rw [hfull]; exact Nat.le_refl _)] at hx
            have hdrop : (v.kn ++ sp).drop v.lo = v.part ++ (v.kn ++ sp).drop (v.lo + v.n) := by
              unfold Vw.part
              rw [← List.drop_drop]
              have e1 : ((v.kn.drop v.lo).take v.n) = ((v.kn ++ sp).drop v.lo).take v.n := by
                rw [List.drop_append_of_le_length (by omega), List.take_append_of_le_length (by simp; omega)]
              rw [e1, List.take_append_drop]
            have hlen2 : (v.part ++ (v.kn ++ sp).drop (v.lo + v.n)).length = (v.kn ++ sp).length - v.lo := by rw [← hdrop, List.length_drop]
            have hmul : v.lo * siz S.e + ((v.kn ++ sp).length - v.lo) * siz S.e = (v.kn ++ sp).length * siz S.e := by rw [← Nat.add_mul]; congr 1; omega
            refine .inr ⟨g, arr, eid, off + v.lo * siz S.e, (v.kn ++ sp).drop (v.lo + v.n), ?_, ?_, ?_, hg, ?_, ?_, ?_⟩
            · show (if (0 : Nat) = 0 then bk else none) = _; rw [if_pos rfl, e1]; exact hk
            · show a.eval x = _
              rw [hval, hsome g off hk hh hlt, hplen, hlen2]
            · right; show bk = some g; rw [e1]; exact hk
            · rw [hlen2]; omega
            · rw [hlen2]; omega
            · rw [hlen2, ← hdrop]
              have e5 : (arr.toList.drop (off + v.lo * siz S.e)).take (((v.kn ++ sp).length - v.lo) * siz S.e) = ((arr.toList.drop off).take ((v.kn ++ sp).length * siz S.e)).drop (v.lo * siz S.e) := by
                rw [List.drop_take, List.drop_drop, Nat.sub_mul]
              rw [e5]
              exact hx.imp fun _ _ r => r.lat hlat0
      · simp [G0, rowG, e] at hi
    · by_cases e : i = 0
      · by_cases f : j = 0
        · rw [e, f]
        · simp [G0, rowG, f] at hj
      · simp [G0, rowG, e] at hi
  have hcall := hS.does Oc w (a.eval x) bk v.part (l.map a.eval) y (fun h => by rw [harg] at h; cases h) hM0 (hgl.lat hlat0) ((ol hr S.as l y hy).lat hlat0) hp
  rw [if_pos harg] at hcall
  have hrun : (execOp a.eval o).run P w = .ok (.enter f (a.eval x :: l.map a.eval).toArray) w := by
    have e : c.args.map a.eval = (a.eval x :: l.map a.eval).toArray := by apply Array.ext'; rw [Array.toList_map, hx]; rfl
    simp only [execOp, ho, resolve, hc, Act.eval, Deferred.ofValue, Sem.run_bind, Sem.run_pure, Result.andThen_ok, invoke, Array.append_empty, Array.empty_append]
    rw [e]
    exact hS.can _ _
  intro next Q h
  unfold Oper.wp
  rw [hrun]
  refine Calls.mono hcall ?_
  rintro e w' ⟨v', Gc, i, rfl, hMc, hOe, hw0, hown, hbi, hhd⟩
  have hkc := hMc.kept
  rw [hw0, hown] at hkc
  have hgi : Gc.bk i = none ∨ Gc.bk i = G.bk v.id ∨ ∃ n, Gc.bk i = some n ∧ w.heap.size ≤ n := by
    cases hk : Gc.bk i with
    | none => exact .inl rfl
    | some g =>
      rcases (fK hMc hbi hk).2 with h1 | h1
      · exact .inr (.inr ⟨g, rfl, by rw [hw0] at h1; exact h1⟩)
      · rw [hown] at h1
        have h1 : bk = some g := h1
        right; left
        rcases hbk with h2 | h2
        · rw [h2] at h1; cases h1
        · rw [← h2, h1]
  obtain ⟨hM', hE⟩ := hM.swapE (w' := w') (j := some v.id) (id := id) (h := v') (g := Gc.bk i) (x := .row S.e (S.g v.part y)) (gj := G.bk v.id) hid (fun i hi => by cases hi; exact ⟨⟨_, hlive⟩, rfl⟩) (fun h => by cases h)
    hkc.os hkc.tape hkc.output hkc.size (fun b hb hne => hkc.block b hb (fun h1 => hne (by rcases hbk with h2 | h2 <;> rw [h2] at h1 <;> first | exact h1.symm | cases h1))) hgi (fun G' eG hE e1 e2 => by
      have hbx := hMc.box i _ hbi
      have hlatc : Lat Gc.av w' G'.av w' := by
        refine ⟨Nat.le_refl _, fun b _ hb => ⟨rfl, ?_⟩⟩
        rintro (h1 | ⟨i', z, h1, h2⟩)
        · have h1 : G.O b := by rw [eG] at h1; exact h1
          exact hb (.inl (by rw [hOe]; exact .inl h1))
        · by_cases e : i' = id
          · rw [e, e2] at h2
            exact hb (.inr ⟨i, _, hbi, h2⟩)
          · subst eG
            by_cases e' : i' = v.id
            · simp [Gst.swap, e, e', Ne.symm hne] at h1
            · have h1' : G.b i' = .live z := by simpa [Gst.swap, e, e'] using h1
              have h2' : G.bk i' = some b := by simpa [Gst.swap, e] using h2
              exact hb (.inl (by rw [hOe]; exact .inr ⟨i', z, e', h1', h2'⟩))
      rcases hbx with ⟨q0, q1, a0, q2⟩ | ⟨g, arr, eid, off, sp', q1, q2, q3, q4, q5, q6, q8⟩
      · exact .inl ⟨q0, by rw [e2]; exact q1, a0, by rw [e1, ← hhd]; exact q2⟩
      · refine .inr ⟨g, arr, eid, off, sp', by rw [e2]; exact q1, by rw [e1, ← hhd]; exact q2, ?_, q4, q5, q6, q8.imp fun _ _ r => r.lat hlatc⟩
        unfold Gst.nb
        rw [hE.w0, hE.own]
        rcases q3 with h1 | h1
        · rw [hw0] at h1; exact .inl (Nat.le_trans hM.kept.size h1)
        · rw [hown] at h1
          have hk : G.bk v.id = some g := by rcases hbk with h2 | h2 <;> rw [h2] at h1 <;> first | exact h1 | cases h1
          exact (fK hM hlive hk).2)
  refine h _ _ v' ?_ hE hM' ⟨⟨.row S.e _, .inl (by simp [Gst.swap]; rfl)⟩, by simp [Gst.swap]⟩
  funext n
  by_cases e1 : n = id
  · simp [Gst.swap, aG, e1]
  · by_cases e2 : n = v.id
    · simp [Gst.swap, aG, e2]
    · simp [Gst.swap, aG, e1, e2]
structure sm (P : Program) (Gl : gQ) (f : FuncId) (S : d6) : Prop where
 can : gx P f
 ret : S.ret = false
 len : ∀ xs y, S.pre xs y → (S.g xs y).length = xs.length
 nil : ∀ (O : Nat → Prop) (w : World) (a0 : Option Addr) (c : Nat) (vs : List Value) (y : den S.as), (∀ g, O g → g < w.heap.size) → GlobOk P Gl O w → Rep P S.as .chain O w vs y → S.pre [] y →
  Calls P f (.slice a0 0 c :: vs).toArray w fun e w' => e = .returned (.tuple #[]) ∧ Kept w w'
 does : ∀ (O : Nat → Prop) (w : World) (g off c : Nat) (arr : Array Value) (eid : TypeId) (xs : List (den S.e)) (vs : List Value) (y : den S.as), (∀ g, O g → g < w.heap.size) → O g → GlobOk P Gl O w → xs ≠ [] →
  RowObj S.e w.heap[g]? arr eid → off + xs.length * siz S.e ≤ arr.size → xs.length ≤ c → c ≤ maxLen → RepAll (Rep P S.e .cells O w) (siz S.e) ((arr.toList.drop off).take (xs.length * siz S.e)) xs →
  Rep P S.as .chain O w vs y → S.pre xs y →
  Calls P f (.slice (some ⟨g, off, none⟩) xs.length c :: vs).toArray w fun e w' => e = .returned (.tuple #[]) ∧ ∃ L, L.length = xs.length * siz S.e ∧ RepAll (Rep P S.e .cells O w) (siz S.e) L (S.g xs y) ∧ Kept (w.setRow g (aw arr.toList off L).toArray) w'
def ROk (P : Program) (Gl : gQ) (f : FuncId) (S : d6) : Prop := mB P Gl f S ∨ sm P Gl f S
theorem GE {arr L : List Value} {off A N : Nat} (hL : L.length = A) (hA : A ≤ N) (h : off + N ≤ arr.length) : ((aw arr off L).drop off).take N = L ++ ((arr.drop off).take N).drop A := by
 have h1 : (arr.take off).length = off := by rw [List.length_take]; omega
 have h2 : (aw arr off L).drop off = L ++ arr.drop (off + A) := by
  unfold aw
  simp only [List.append_assoc]
  rw [List.drop_append, h1, Nat.sub_self, List.drop_zero, List.drop_of_length_le (by omega), List.nil_append, hL]
 rw [h2, List.take_append, List.take_of_length_le (by omega), hL, List.drop_take, List.drop_drop]
theorem MG (hM : MemOk P G w) {Gl : gQ} (hgl : GlobOk P Gl G.av w) {c : Call} (ho : o.op = .call c) {f : FuncId} (hc : c.callee = .value (.func f)) {S : d6} (hS : sm P Gl f S) {x : Operand} {l : List Operand} (hx : c.args.toList = x :: l) {id : Nat} {e' : Ty} (hkx : KV P G w tm (.sl id e') (a.eval x)) {xs : List (den S.e)} (hb : G.b id = .live (.row S.e xs))
    {r : Operand → K} (hr : ∀ x, KV P G w tm (r x) (a.eval x)) {y : den S.as} (hy : dE S.as (l.map r) = some y) (hp : S.pre xs y) : ak P o a G w tm .any [(id, .live (.row S.e (S.g xs y)))] := by
  obtain ⟨_, ex⟩ := hkx
  have hargs := ol hr S.as l y hy
  have hrun : (execOp a.eval o).run P w = .ok (.enter f (a.eval x :: l.map a.eval).toArray) w := by
    have e : c.args.map a.eval = (a.eval x :: l.map a.eval).toArray := by apply Array.ext'; rw [Array.toList_map, hx]; rfl
    simp only [execOp, ho, resolve, hc, Act.eval, Deferred.ofValue, Sem.run_bind, Sem.run_pure, Result.andThen_ok, invoke, Array.append_empty, Array.empty_append]
    rw [e]
    exact hS.can _ _
  have hav : ∀ g, G.av g → g < w.heap.size := fun g h => o4 hM h
  intro next Q h
  unfold Oper.wp
  rw [hrun]
  by_cases hnil : xs = []
  · subst hnil
    have hg0 : S.g [] y = [] := List.eq_nil_of_length_eq_zero (hS.len _ _ hp)
    obtain ⟨a0, c0, hhd, _⟩ := DG hM hb
    rw [ex, hhd]
    refine Calls.mono (hS.nil G.av w a0 c0 _ y hav hgl hargs hp) ?_
    rintro e w' ⟨rfl, hk⟩
    obtain ⟨hM', hE⟩ := hM.kept_on hk
    refine h G w' _ ?_ hE hM' trivial
    funext n
    by_cases e1 : n = id
    · subst e1; simp [aG, hg0, hb]
    · simp [aG, e1]
  · rcases hM.box id _ hb with ⟨h1, _⟩ | ⟨g, arr, eid, off, sp, q1, q2, q3, q4, q5, q6, q8⟩
    · exact absurd h1 hnil
    · have hA : arr.toList.length = arr.size := Array.length_toList
      have hl : xs.length * siz S.e ≤ (xs ++ sp).length * siz S.e := Nat.mul_le_mul_right _ (by simp)
      have hfull : ((arr.toList.drop off).take ((xs ++ sp).length * siz S.e)).length = (xs ++ sp).length * siz S.e := by rw [List.length_take, List.length_drop, hA]; omega
      obtain ⟨s1, s2⟩ := RepAll.split q8 hfull
      rw [List.take_take, Nat.min_eq_left hl] at s1
      rw [ex, q2]
      refine Calls.mono (hS.does G.av w g off _ arr eid xs _ y hav (.inr ⟨id, _, hb, q1⟩) hgl hnil q4 (by omega) (by simp) q5 s1 hargs hp) ?_
      rintro e w' ⟨rfl, L, hL, hrep, hk⟩
      have hlen := hS.len _ _ hp
      have hcap : (S.g xs y ++ sp).length = (xs ++ sp).length := by simp [hlen]
      have hspl : (aw arr.toList off L).length = arr.toList.length := eH (by rw [hL, hA]; omega)
      obtain ⟨hM1, hE1⟩ := hM.turn hb q1 (cs := (aw arr.toList off L).toArray) (x := .row S.e (S.g xs y)) (fun G' w' e0 hE e1 e2 => by
        refine .inr ⟨g, (aw arr.toList off L).toArray, eid, off, sp, e2, by rw [e1, q2, hcap, hlen], ?_, ?_, by rw [hcap]; exact q5, ?_, ?_⟩
        · unfold Gst.nb
          rw [hE.w0, hE.own]
          exact q3
        · rw [e0]
          exact RowObj.set q4 (by rw [List.size_toArray, hspl, hA])
        · rw [List.size_toArray, hspl, hA, hcap]; exact q6
        · show RepAll _ _ (((aw arr.toList off L).drop off).take ((S.g xs y ++ sp).length * siz S.e)) _
          rw [hcap, GE hL hl (by rw [hA]; exact q6)]
          exact RepAll.append (by rw [hL, hlen]) (hrep.imp fun _ _ r => r.lat hE.lat) (s2.imp fun _ _ r => r.lat hE.lat))
      obtain ⟨hM2, hE2⟩ := hM1.kept_on hk
      exact h _ w' _ rfl (hE1.trans hE2) hM2 trivial
theorem No (hM : MemOk P G w) {Gl : gQ} (hgl : GlobOk P Gl G.av w) {c : Call} (ho : o.op = .call c) {f : FuncId} (hc : c.callee = .value (.func f)) {S : d6} (hS : sm P Gl f S) {x : Operand} {l : List Operand} (hx : c.args.toList = x :: l) (hkx : KV P G w tm .nilsl (a.eval x))
    {r : Operand → K} (hr : ∀ x, KV P G w tm (r x) (a.eval x)) {y : den S.as} (hy : dE S.as (l.map r) = some y) (hp : S.pre [] y) : ak P o a G w tm .any [] := by
  have hargs := ol hr S.as l y hy
  have hrun : (execOp a.eval o).run P w = .ok (.enter f (a.eval x :: l.map a.eval).toArray) w := by
    have e : c.args.map a.eval = (a.eval x :: l.map a.eval).toArray := by apply Array.ext'; rw [Array.toList_map, hx]; rfl
    simp only [execOp, ho, resolve, hc, Act.eval, Deferred.ofValue, Sem.run_bind, Sem.run_pure, Result.andThen_ok, invoke, Array.append_empty, Array.empty_append]
    rw [e]
    exact hS.can _ _
  have hav : ∀ g, G.av g → g < w.heap.size := fun g h => o4 hM h
  have hkx : a.eval x = .slice none 0 0 := hkx
  intro next Q h
  unfold Oper.wp
  rw [hrun, hkx]
  refine Calls.mono (hS.nil G.av w none 0 _ y hav hgl hargs hp) ?_
  rintro e w' ⟨rfl, hk⟩
  obtain ⟨hM', hE⟩ := hM.kept_on hk
  exact h G w' _ rfl hE hM' trivial
end
end Go.Proofs.Ytimdnodkabnbfaa
namespace Go.Proofs.Ytimdnodkabnbfaa
open Go Go.RowKit
def LA (P : Program) (D : aK) (f : FuncId) : Prop := ∃ tS tR e, D.ty tS = some (.slc e) ∧ ∀ args w v, (Extern.SlicesOverlaps.overlaps #[tS, tS] #[tR] args).run P w = .ok v w → (callFunc f args).run P w = .ok (.value v) w
def Ba (P : Program) (O : Nat → Prop) (w0 : World) (e : Ty) (xs : List (den e)) : Ending → World → Prop :=
 fun en w' => ∃ v, en = .returned v ∧ Kept w0 w' ∧ aB P (.slc e) O w' v xs ∧ ∃ a n, v = .slice a n n
structure uU (P : Program) (f : FuncId) (e : Ty) : Prop where
 can : gx P f
 does : ∀ (O : Nat → Prop) (w : World) (v : Value) (xs : List (den e)), (∀ g, O g → g < w.heap.size) → aB P (.slc e) O w v xs → Calls P f #[v] w (Ba P O w e xs)
structure cQ (P : Program) (D : aK) : Prop extends DOk P D where
 rows : ∀ f S, D.R.lookup f = some S → ROk P D.G f S
 ovl : ∀ f, D.ovl.contains f = true → LA P D f
 clp : ∀ f e, D.clp.lookup f = some e → uU P f e
section
variable {P : Program} {D : aK} {o : Oper} {a : Act} {G : Gst} {w : World} {tm : Nat → Value}
theorem OQ (hM : MemOk P G w) {c : Call} (ho : o.op = .call c) {f : FuncId} (hc : c.callee = .value (.func f)) {e : Ty} (hf : uU P f e) {x : Operand} (hx : c.args.toList = [x]) {xs : List (den e)} (hk : aB P (.slc e) G.av w (a.eval x) xs) : ak P o a G w tm (.clip e xs) [] := by
 intro next Q h
 have hrun : (execOp a.eval o).run P w = .ok (.enter f #[a.eval x]) w := by
  have e : c.args.map a.eval = #[a.eval x] := by apply Array.ext'; rw [Array.toList_map, hx]; rfl
  simp only [execOp, ho, resolve, hc, Act.eval, Deferred.ofValue, Sem.run_bind, Sem.run_pure, Result.andThen_ok, invoke, Array.append_empty, Array.empty_append]
  rw [e]
  exact hf.can _ _
 unfold Oper.wp
 rw [hrun]
 refine (hf.does G.av w _ xs (fun g h => o4 hM h) hk).mono ?_
 rintro en w' ⟨v, rfl, hk, hr, hv⟩
 obtain ⟨hM', hE⟩ := hM.kept_on hk
 exact h G w' v rfl hE hM' ⟨hr, hv⟩
theorem K4 (hM : MemOk P G w) {Gl : gQ} (hgl : GlobOk P Gl G.av w) {c : Call} (ho : o.op = .call c) {f : FuncId} (hc : c.callee = .value (.func f)) {S : d6} (hS : mB P Gl f S) (harg : S.arg = false)
    {r : Operand → K} (hr : ∀ x, KV P G w tm (r x) (a.eval x)) {y : den S.as} (hy : dE S.as (c.args.toList.map r) = some y) (hp : S.pre [] y) {id : Nat} (hf : aX G.b id = true) :
    ak P o a G w tm (.sl id S.e) [(id, .live (.row S.e (S.g [] y)))] := by
  have hid := bP hf
  let G0 := rowG G.av w undef none (if S.arg then .live (.row S.e []) else .no)
  have hb0 : ∀ i, G0.b i = .no := fun i => by
    show (if i = 0 then (if S.arg then _ else BS.no) else .no) = _
    rw [harg]; split <;> rfl
  have hav0 : ∀ g, G0.av g → G.av g := by
    rintro g (h | ⟨i, z, h1, h2⟩)
    · exact h
    · rw [hb0] at h1; cases h1
  have hlat0 : Lat G.av w G0.av w := ⟨Nat.le_refl _, fun b _ h => ⟨rfl, fun h' => h (hav0 b h')⟩⟩
  have hM0 : MemOk P G0 w := ⟨(Kept.refl w).x _, fun g h => o4 hM h, fun g h => (by cases h), fun i z hi => (by rw [hb0] at hi; cases hi), fun i j y z g hi _ _ _ => (by rw [hb0] at hi; cases hi), fun i z g hi _ => (by rw [hb0] at hi; cases hi)⟩
  have hcall := hS.does G.av w undef none [] (c.args.toList.map a.eval) y (fun _ => ⟨rfl, rfl⟩) hM0 (hgl.lat hlat0) ((ol hr S.as _ y hy).lat hlat0) hp
  have e0 : ((if S.arg = true then [undef] else []) ++ c.args.toList.map a.eval).toArray = c.args.map a.eval := by rw [harg]; apply Array.ext'; simp
  rw [e0] at hcall
  have hrun : (execOp a.eval o).run P w = .ok (.enter f (c.args.map a.eval)) w := by
    simp only [execOp, ho, resolve, hc, Act.eval, Deferred.ofValue, Sem.run_bind, Sem.run_pure, Result.andThen_ok, invoke, Array.append_empty, Array.empty_append]
    exact hS.can _ _
  intro next Q h
  unfold Oper.wp
  rw [hrun]
  refine Calls.mono hcall ?_
  rintro e w' ⟨v', Gc, i, rfl, hMc, hOe, hw0, hown, hbi, hhd⟩
  have hkc := hMc.kept
  rw [hw0, hown] at hkc
  have hgi : Gc.bk i = none ∨ Gc.bk i = none ∨ ∃ n, Gc.bk i = some n ∧ w.heap.size ≤ n := by
    cases hk : Gc.bk i with
    | none => exact .inl rfl
    | some g =>
      rcases (fK hMc hbi hk).2 with h1 | h1
      · exact .inr (.inr ⟨g, rfl, by rw [hw0] at h1; exact h1⟩)
      · rw [hown] at h1; cases h1
  obtain ⟨hM', hE⟩ := hM.swapE (w' := w') (j := none) (id := id) (h := v') (g := Gc.bk i) (x := .row S.e (S.g [] y)) (gj := none) hid (fun i hi => by cases hi) (fun _ => rfl)
    hkc.os hkc.tape hkc.output hkc.size (fun b hb _ => hkc.block b hb (fun h1 => by cases h1)) hgi (fun G' eG hE e1 e2 => by
      have hbx := hMc.box i _ hbi
      have hlatc : Lat Gc.av w' G'.av w' := by
        refine ⟨Nat.le_refl _, fun b _ hb => ⟨rfl, ?_⟩⟩
        rintro (h1 | ⟨i', z, h1, h2⟩)
        · have h1 : G.O b := by rw [eG] at h1; exact h1
          exact hb (.inl (by rw [hOe]; exact .inl h1))
        · by_cases e : i' = id
          · rw [e, e2] at h2
            exact hb (.inr ⟨i, _, hbi, h2⟩)
          · subst eG
            have h1' : G.b i' = .live z := by simpa [Gst.swap, e] using h1
            have h2' : G.bk i' = some b := by simpa [Gst.swap, e] using h2
            exact hb (.inl (by rw [hOe]; exact .inr ⟨i', z, h1', h2'⟩))
      rcases hbx with ⟨q0, q1, a0, q2⟩ | ⟨g, arr, eid, off, sp', q1, q2, q3, q4, q5, q6, q8⟩
      · exact .inl ⟨q0, by rw [e2]; exact q1, a0, by rw [e1, ← hhd]; exact q2⟩
      · refine .inr ⟨g, arr, eid, off, sp', by rw [e2]; exact q1, by rw [e1, ← hhd]; exact q2, ?_, q4, q5, q6, q8.imp fun _ _ r => r.lat hlatc⟩
        unfold Gst.nb
        rw [hE.w0, hE.own]
        rcases q3 with h1 | h1
        · rw [hw0] at h1; exact .inl (Nat.le_trans hM.kept.size h1)
        · rw [hown] at h1; cases h1)
  refine h _ _ v' ?_ hE hM' ⟨⟨.row S.e _, .inl (by simp [Gst.swap]; rfl)⟩, by simp [Gst.swap]⟩
  funext n
  by_cases e1 : n = id
  · simp [Gst.swap, aG, e1]
  · simp [Gst.swap, aG, e1]
theorem Ld {w : World} {ad : Addr} {v : Value} (h : w.cell? ad = some v) : ∃ c e fr, w.heap[ad.block]? = some (.cells c e fr) ∧ 0 < c.size := by
  unfold World.cell? at h
  split at h
  · rename_i c e fr hc
    split at h
    · cases h
    · exact ⟨c, e, fr, hc, by rcases Nat.eq_zero_or_pos c.size with h0 | h0
                              · rw [Array.eq_empty_of_size_eq_zero h0] at h; simp at h
                              · exact h0⟩
  · cases h
theorem Je (tS tR : TypeId) (a b : Option Addr) (la ca lb cb : Nat) : Extern.SlicesOverlaps.overlaps #[tS, tS] #[tR] #[.slice a la ca, .slice b lb cb] = (do
    let some t := (#[tS, tS] : Array TypeId)[0]? | stuck "slices.overlaps: no parameter types"
    let .slice elem ← underlying t | stuck "slices.overlaps: slice type expected"
    let size ← Go.sizeOf elem
    match a, b with
    | some a, some b =>
      if la = 0 ∨ lb = 0 ∨ size = 0 then pure (Value.bool false)
      else if a.block != b.block && (← frozen a) && (← frozen b) then unsupported .addressObserved
      else do
        if a.block != b.block then do
          noView a; noView b
          if ← mayBeOne a b then return Value.bool ((← choose (.extern "sameAddr.stringBytes" 2)) == 1)
        pure (Value.bool (a.block == b.block && a.off < b.off + lb * size && b.off < a.off + la * size))
    | _, _ => pure (Value.bool false) : Sem Value) := rfl
theorem Ch {tS tR ei : TypeId} (hu : P.underlying tS = some (.slice ei)) {sz : Nat} (hsz : ∀ w, (Go.sizeOf ei).run P w = .ok sz w) {a0 b0 : Option Addr} {la ca lb cb : Nat}
    (h : la ≠ 0 → lb ≠ 0 → ∀ ad bd, a0 = some ad → b0 = some bd → ad.block ≠ bd.block ∧ (∃ c e fr, w.heap[ad.block]? = some (.cells c e fr) ∧ 0 < c.size) ∧ ∃ c e, w.heap[bd.block]? = some (.cells c e (0, 0))) :
    (Extern.SlicesOverlaps.overlaps #[tS, tS] #[tR] #[.slice a0 la ca, .slice b0 lb cb]).run P w = .ok (.bool false) w := by
  rw [Je]
  cases a0 with
  | none => simp [run_underlying hu, hsz]
  | some ad =>
    cases b0 with
    | none => simp [run_underlying hu, hsz]
    | some bd =>
      by_cases h0 : la = 0 ∨ lb = 0 ∨ sz = 0
      · simp [run_underlying hu, hsz, h0]
      · have h1 : la ≠ 0 := fun e => h0 (.inl e)
        have h2 : lb ≠ 0 := fun e => h0 (.inr (.inl e))
        obtain ⟨hne, ⟨c, e, fr, hA, hA0⟩, c', e', hB⟩ := h h1 h2 ad bd rfl rfl
        have hnb : (ad.block != bd.block) = true := by simpa using hne
        have hnb' : (ad.block == bd.block) = false := by simpa using hne
        have hsA : w.shape? ad.block = some (e, c.size) := by unfold World.shape?; rw [hA]
        have hsB : w.shape? bd.block = some (e', c'.size) := by unfold World.shape?; rw [hB]
        have hfB : ∀ x : Addr, x.block = bd.block → w.frozen? x = false := fun x hx => by unfold World.frozen?; rw [hx, hB]; simp
        have hfB1 := hfB bd rfl
        have hfB2 := hfB ⟨bd.block, c'.size, none⟩ rfl
        obtain ⟨k, hk⟩ : ∃ k, c.size = k + 1 := ⟨c.size - 1, by omega⟩
        rw [hk] at hsA
        simp [run_underlying hu, hsz, h0, hnb, hnb', frozen, noView, viewAt, mayBeOne, stringish, shape, Sem.run, hsA, hsB, hfB1, hfB2]
theorem LM (hD : DOk P D) (hM : MemOk P G w) {c : Call} (ho : o.op = .call c) {f : FuncId} (hc : c.callee = .value (.func f)) (hf : LA P D f) {x y : Operand} (hx : c.args.toList = [x, y]) {e1 e2 : Ty} {xs : List (den e1)} (hkx : KV P G w tm (.val (.slc e1) xs) (a.eval x)) (h1 : 1 ≤ siz e1) {id lo n : Nat} (hky : KV P G w tm (.vw id e2 lo n) (a.eval y))
    {bx : Bx} (hl : G.b id = .live bx) {e3 : Ty} (hne3 : ¬ e3 = .int .u8) {n3 : Nat} {zs : List (den e3)} (hrow : uY P G w id e3 n3 zs) : ak P o a G w tm (.val .bool false) [] := by
  obtain ⟨tS, tR, e, htS, hov⟩ := hf
  obtain ⟨ei, hu, hte, hse⟩ := aY (hD.fit htS).shape
  have hsz := fun w => (hD.fit hte).sizeOf w
  refine aC hM (v := .bool false) ?_ (bA.2 rfl)
  have e : c.args.map a.eval = #[a.eval x, a.eval y] := by apply Array.ext'; rw [Array.toList_map, hx]; rfl
  simp only [execOp, ho, resolve, hc, Act.eval, Deferred.ofValue, Sem.run_bind, Sem.run_pure, Result.andThen_ok, invoke, Array.append_empty, Array.empty_append]
  rw [e]
  refine hov _ _ _ ?_
  obtain ⟨cs, ex, a0, cc, L, rfl, x2, x3, x4, x5, x6, x7⟩ := hkx
  have ex : a.eval x = .slice a0 xs.length cc := ex
  obtain ⟨_, aa, len, cap, hh, hle, a', ey, ha⟩ := hky
  rw [ex, ey]
  refine Ch hu hsz fun l1 l2 ad bd ea eb => ?_
  have hxe : xs ≠ [] := fun h => l1 (by rw [h]; rfl)
  obtain ⟨ad', ea', q1, q2, q3⟩ := x6 hxe
  rw [ea] at ea'
  cases ea'
  have hL : 0 < L.length := by
    rw [x4]; exact Nat.mul_pos (List.length_pos_iff.2 hxe) h1
  have hc0 := q3 0 (L[0]'hL) (by simp [List.getElem?_eq_getElem hL])
  obtain ⟨cA, eA, frA, hA, hA0⟩ := Ld hc0
  rw [dQ] at hA
  rcases hrow with ⟨r1, r2, r3, aa', r4⟩ | ⟨g, arr, eid, off, r1, r2, r3, r4, r5, _⟩
  · rw [r4] at hh; injection hh with _ _ h3; omega
  · rw [r2] at hh
    injection hh with h3 _ h5
    have hb := ha (by omega)
    rw [← h3] at hb
    rw [eb] at hb
    simp only [Option.map_some, cS, Option.some.injEq] at hb
    subst hb
    obtain ⟨fz, r4, hfz⟩ := r4
    rcases hfz with rfl | ⟨hfz, _⟩
    · exact ⟨fun e => q1 (e ▸ .inr ⟨id, bx, hl, r1⟩), ⟨cA, eA, frA, hA, hA0⟩, arr, eid, r4⟩
    · exact absurd hfz hne3
def OF (P : Program) (o : Oper) (a : Act) (G : Gst) (w : World) (tm : Nat → Value) : Eff → Prop
 | .one k ch ps => (∀ p ∈ ps, p) → ak P o a G w tm k ch
 | .ex _ p k ch => ∃ x, p x ∧ ak P o a G w tm (k x) (ch x)
theorem P1 (hM : MemOk P G w) {e : Ty} {id n : Nat} {kn : List (den e)} (h : it G.b e id = some (n, kn)) : ∃ bx n3 zs, G.b id = .live bx ∧ uY P G w id e n3 zs := by
 obtain ⟨sp, hr⟩ := CN hM h
 obtain ⟨x, hx⟩ := hr.live
 exact ⟨x, n, _, hx, hr.row⟩
set_option maxHeartbeats 1000000 in
theorem vj (hX : cQ P D) (hM : MemOk P G w) (hgl : GlobOk P D.G G.av w) {r : Operand → K} (hr : ∀ x, KV P G w tm (r x) (a.eval x)) {id : Nat} {q : Eff} (h : fO D o r G.b id = some q) :
    OF P o a G w tm q := by
  have hD := hX.toDOk
  unfold fO at h
  split at h
  ·
    rename_i x i ho
    split at h
    · rename_i p c hx
      split at h
      · rename_i hne
        have e := (Option.some.inj h).symm
        subst e
        have hkx := hr x
        rw [hx] at hkx
        exact fun _ => Dm hM ho hkx hne
      · cases h
    · cases h
  ·
    rename_i f first captured ho
    split at h
    · rename_i h0
      have e := (Option.some.inj h).symm
      subst e
      exact fun _ => Qc hM ho h0 hr
    · cases h
  ·
    rename_i op tx x y ty ho
    split at h
    · rename_i e ht
      split at h
      · rename_i hy
        have hyv : a.eval y = .slice none 0 0 := by
          have := hr y
          unfold L5 at hy
          split at hy
          · rename_i e; rw [e] at this; exact this
          · cases hy
        split at h
        all_goals first | cases h | skip
        all_goals rename_i hq
        · rename_i c
          obtain ⟨aa, n, cc, ev, h1, _⟩ := A4 hM (hr x) hq
          have := Hb (tm := tm) (neq := false) hD hM ho ht ev hyv
          rw [h1 c rfl] at this
          exact fun _ => this
        · rename_i c
          obtain ⟨aa, n, cc, ev, h1, _⟩ := A4 hM (hr x) hq
          have := Hb (tm := tm) (neq := true) hD hM ho ht ev hyv
          rw [h1 c rfl] at this
          exact fun _ => this
        · rename_i p
          obtain ⟨aa, n, cc, ev, _, h1⟩ := A4 hM (hr x) hq
          exact ⟨aa.isNone, h1 p rfl, Hb (tm := tm) (neq := false) hD hM ho ht ev hyv⟩
        · rename_i p
          obtain ⟨aa, n, cc, ev, _, h1⟩ := A4 hM (hr x) hq
          exact ⟨aa.isNone, h1 p rfl, Hb (tm := tm) (neq := true) hD hM ho ht ev hyv⟩
      · cases h
    · cases h
  ·
    rename_i tx x lo hi mx ho
    split at h
    · rename_i e ht
      split at h
      · rename_i v hv
        split at h
        · rename_i l hh hl hhi
          split at h
          · have e := (Option.some.inj h).symm
            subst e
            exact fun hp => Lp hD hM ho ht (hr x) hv (fd hr hl) (fd hr hhi) (hp _ (by simp)) (hp _ (by simp))
          · rename_i mo
            split at h
            · rename_i m hm
              split at h
              · rename_i hiq
                have e := (Option.some.inj h).symm
                subst e
                intro hp
                obtain ⟨n0, sp, hvo⟩ := jJ hM (hr x) hv
                obtain ⟨a', hval, _⟩ := hvo.val
                have hvk : v.ok := hp _ (by simp)
                have hc : bQ l hh m := hp _ (by simp)
                have hmc : m ≤ ((v.kn.length - v.lo : Nat) : Int) := hp _ (by simp)
                have hh2 : ∃ q k, hi = some q ∧ a.eval q = .int k hh := by
                  rcases fd hr hhi with ⟨e1, _⟩ | h2
                  · rw [e1] at hiq; cases hiq
                  · exact h2
                exact HQ hD hM ho ht hval (fd hr hl) hh2 (jA (hr _) hm) hc (by
                  have : ((v.kn.length - v.lo : Nat) : Int) ≤ (((v.kn ++ sp).length - v.lo : Nat) : Int) := by simp only [List.length_append]; omega
                  omega)
              · cases h
            · cases h
        · cases h
      · split at h
        · rename_i xs mo hxs
          split at h
          · rename_i l hh m hl hhi hm
            split at h
            · rename_i hiq
              have e := (Option.some.inj h).symm
              subst e
              intro hp
              obtain ⟨cs, ev, a0, cc, L, rfl, x2, x3, x4, x5, x6, x7⟩ := cu (hr x) hxs
              have hc : bQ l hh m := hp _ (by simp)
              have hmc : m ≤ (xs.length : Int) := hp (m ≤ ln (e := e) xs) (by simp)
              have hh2 : ∃ q k, hi = some q ∧ a.eval q = .int k hh := by
                rcases fd hr hhi with ⟨e1, _⟩ | h2
                · rw [e1] at hiq; cases hiq
                · exact h2
              exact HQ hD hM ho ht ev (fd hr hl) hh2 (jA (hr _) hm) hc (by omega)
            · cases h
          · cases h
        · cases h
    · rename_i m e ht
      split at h
      · rename_i j base p hk
        split at h
        · rename_i hta
          split at h
          · rename_i l hh hl hhi
            have e := (Option.some.inj h).symm
            subst e
            have hkx := hr x
            rw [hk] at hkx
            exact fun hp => Jz hD hM ho ht hkx hta (fd hr hl) (fd hr hhi) (hp _ (by simp))
          · cases h
        · cases h
      · cases h
    · cases h
  ·
    rename_i c ho
    split at h
    ·
      rename_i hc
      split at h
      · rename_i x e hx ht
        split at h
        · rename_i v hv
          have e := (Option.some.inj h).symm
          subst e
          obtain ⟨t0, h0, h1⟩ := Option.bind_eq_some_iff.1 ht
          obtain ⟨n0, sp, hvo⟩ := jJ hM (hr x) hv
          obtain ⟨a', hval, hle, _⟩ := hvo.val
          obtain ⟨_, _, _, hm, _⟩ := nV hvo.row.row
          exact fun _ => Mo hD hM ho hc hx h0 h1 hval (by omega)
        · cases h
      · cases h
    ·
      rename_i hc
      split at h
      · rename_i x e hx ht
        split at h
        · rename_i j e0 hk
          split at h
          · rename_i e' xs0 hb
            split at h
            · rename_i xs hcast
              obtain ⟨ee, rfl⟩ := cz hcast
              cases ee
              have e := (Option.some.inj h).symm
              subst e
              obtain ⟨t0, h0, h1⟩ := Option.bind_eq_some_iff.1 ht
              have hkx := hr x
              rw [hk] at hkx
              exact Qh hD hM ho hc hx h0 h1 hkx hb
            · cases h
          · cases h
        · cases h
      · cases h
    ·
      rename_i hc
      split at h
      · rename_i x y e hx ht
        split at h
        · rename_i v ys ps hv hs
          have e := (Option.some.inj h).symm
          subst e
          obtain ⟨t0, h0, h1⟩ := Option.bind_eq_some_iff.1 ht
          exact fun hp => PF hD hM ho hc hx h0 h1 (hr x) hv (Cn hM (hr y) hs (fun p hp' => hp p (List.mem_cons_of_mem _ hp'))) (hp _ (List.mem_cons_self ..))
        · split at h
          · rename_i j base p m e' lo n ys ps hk hs
            split at h
            · rename_i ee
              subst ee
              split at h
              · rename_i t z hb
                split at h
                · rename_i et
                  subst et
                  split at h
                  · rename_i old hold
                    split at h
                    · rename_i bx hup
                      have e := (Option.some.inj h).symm
                      subst e
                      obtain ⟨t0, h0, h1⟩ := Option.bind_eq_some_iff.1 ht
                      have hkx := hr x
                      rw [hk] at hkx
                      exact fun hp => Ln hD hM ho hc hx h0 h1 hkx hb hold (M7 hM (hr y) hs hp) hup
                    · cases h
                  · cases h
                · cases h
              · cases h
            · cases h
          · cases h
        · cases h
      · cases h
    ·
      rename_i hc
      split at h
      · rename_i x e hx ht
        split at h
        · rename_i v hv
          have e := (Option.some.inj h).symm
          subst e
          obtain ⟨t0, h0, h1⟩ := Option.bind_eq_some_iff.1 ht
          exact fun hp => OU hD hM ho hc hx h0 h1 (hr x) hv (hp _ (by simp))
        · cases h
      · cases h
    ·
      rename_i hc
      split at h
      · rename_i x y t t' hx hat
        split at h
        · rename_i e ht
          split at h
          · rename_i j e0 l0 n0 v hk hv
            split at h
            · rename_i ett
              subst ett
              split at h
              · rename_i ys ps e3 xs3 hs hl
                have e := (Option.some.inj h).symm
                subst e
                exact fun hp => JI hD hM ho hc hx (by apply Array.ext'; rw [hat]) ht (hr x) hv (Cn hM (hr y) hs (fun p hp' => hp p (by simp [hp']))) (hp _ (by simp)) (hp _ (by simp))
              · cases h
            · split at h
              · rename_i ki n e3 n3 zs3 ht' hn hl
                split at h
                · rename_i hf
                  simp only [Bool.and_eq_true, decide_eq_true_eq] at hf
                  have e := (Option.some.inj h).symm
                  subst e
                  intro hp
                  obtain ⟨kq, hyv⟩ := jA (hr y) hn
                  have hid : v.id = j := by
                    rw [hk] at hv
                    unfold dK at hv
                    simp only at hv
                    split at hv
                    · split at hv
                      · have e1 := (Option.some.inj hv).symm; rw [e1]
                      · cases hv
                    · cases hv
                  obtain ⟨n', hkn⟩ := A9 hv
                  have hfull : ∃ n' zs, ao G.b v.id = some (.full e n' zs) := by
                    rw [hid] at hkn ⊢
                    unfold it at hkn
                    rw [hl] at hkn
                    simp only at hkn
                    split at hkn
                    · rename_i ys hcast
                      obtain ⟨ee, _⟩ := cz hcast
                      cases ee
                      exact ⟨_, _, hl⟩
                    · cases hkn
                  exact Fm hD hM ho hc hx (by apply Array.ext'; rw [hat]) ht ht' (hr x) hv hyv (hp _ (by simp)) hf.2 hfull (hp _ (by simp)) (hp _ (by simp)) (hp _ (by simp)) hf.1
                · cases h
              · cases h
          · cases h
        · cases h
      · cases h
    ·
      rename_i f hc
      split at h
      · rename_i hov
        split at h
        · rename_i x y hx
          split at h
          · rename_i e1 xs1 id2 e2 lo2 n2 hkx hky
            split at h
            · rename_i hs1
              simp only [Bool.and_eq_true, decide_eq_true_eq] at hs1
              have e := (Option.some.inj h).symm
              subst e
              obtain ⟨⟨n3, zs⟩, hkn⟩ := Option.isSome_iff_exists.1 hs1.1.2
              obtain ⟨bx, n4, zs4, hl, hrow⟩ := P1 hM hkn
              have h1 := hr x
              rw [hkx] at h1
              have h2 := hr y
              rw [hky] at h2
              obtain ⟨tS, tR, e', h3, h4⟩ := hX.ovl f hov
              exact fun _ => LM hD hM ho hc ⟨tS, tR, e', h3, h4⟩ hx h1 hs1.1.1 h2 hl (by simpa using hs1.2) hrow
            · cases h
          · cases h
        · cases h
      · split at h
        · rename_i S hS
          have hROk := hX.rows f S hS
          split at h
          · rename_i x l harg hx
            split at h
            · rename_i v y hv hy
              split at h
              · rename_i hret
                have hSok : mB P D.G f S := hROk.resolve_right fun k => by rw [k.ret] at hret; cases hret
                split at h
                · rename_i hf
                  have e := (Option.some.inj h).symm
                  subst e
                  have hv' : dK G.b S.e (r x) = some v := by
                    generalize r x = k at hv
                    cases k <;> first | exact hv | cases hv
                  exact fun hp => MU hM hgl ho hc hSok harg hx (hr x) hv' hr hy (hp _ (by simp)) (hp _ (by simp)) hf
                · cases h
              · rename_i hret
                have hPut : sm P D.G f S := hROk.resolve_left fun k => hret k.ret
                split at h
                · rename_i j e1 hkx
                  split at h
                  · rename_i e2 xs0 hl
                    split at h
                    · rename_i xs hcx
                      have e := (Option.some.inj h).symm
                      subst e
                      obtain ⟨e3, e4⟩ := cz hcx
                      injection e3 with e5
                      subst e5
                      have e4 : xs = xs0 := e4
                      subst e4
                      have hkx' := hr x
                      rw [hkx] at hkx'
                      exact fun hp => MG hM hgl ho hc hPut hx hkx' (aq hl) hr hy (hp _ (by simp))
                    · cases h
                  · cases h
                · cases h
            · rename_i y _ hy
              split at h
              · cases h
              · rename_i hret
                have hPut : sm P D.G f S := hROk.resolve_left fun k => hret k.ret
                split at h
                · rename_i hkx
                  have e := (Option.some.inj h).symm
                  subst e
                  have hkx' := hr x
                  rw [hkx] at hkx'
                  exact fun hp => No hM hgl ho hc hPut hx hkx' hr hy (hp _ (by simp))
                · cases h
            · cases h
          · have harg : S.arg = false := by assumption
            split at h
            · rename_i y hy
              split at h
              · rename_i hf
                simp only [Bool.and_eq_true] at hf
                have hSok : mB P D.G f S := hROk.resolve_right fun k => by have := hf.1; rw [k.ret] at this; cases this
                have e := (Option.some.inj h).symm
                subst e
                exact fun hp => K4 hM hgl ho hc hSok harg hr hy (hp _ (by simp)) hf.2
              · cases h
            · cases h
          · cases h
        · split at h
          · rename_i S hS
            split at h
            · rename_i hf
              split at h
              · rename_i x hx
                have e := (Option.some.inj h).symm
                subst e
                exact fun hp => N9 hD hM hgl ho hc hS hf hr hx (hp _ (by simp))
              · cases h
            · cases h
          · split at h
            · rename_i e hcl
              split at h
              · rename_i x hx
                split at h
                · rename_i xs hxs
                  have e := (Option.some.inj h).symm
                  subst e
                  exact fun _ => OQ hM ho hc (hX.clp _ _ hcl) hx (cu (hr x) hxs)
                · cases h
              · cases h
            · cases h
    · rename_i t hc
      split at h
      · split at h
        · rename_i f cap hq
          split at h
          · rename_i S hS
            split at h
            · rename_i hf
              split at h
              · rename_i x hx
                have e := (Option.some.inj h).symm
                subst e
                have hkq := hr (.tmp t)
                rw [hq] at hkq
                exact fun hp => PV hD hM hgl ho hc hkq hS hf hr hx (hp _ (by simp))
              · cases h
            · cases h
          · cases h
        · cases h
      · cases h
    · cases h
  · cases h
theorem J1 (hX : cQ P D) (hh : dX D = true) (hM : MemOk P G w) (hgl : GlobOk P D.G G.av w) {r : Operand → K} (hr : ∀ x, KV P G w tm (r x) (a.eval x)) {id : Nat} {k : K} {ch : Chg} {ps : List Prop} (h : c6 D o r G.b id = some (k, ch, ps)) (hp : ∀ p ∈ ps, p) : ak P o a G w tm k ch := by
 unfold c6 at h
 split at h
 ·rename_i q hv
  have e := Option.some.inj h
  subst e
  exact K5 hX.toDOk hh hM hgl hr hv hp
 ·split at h
  ·split at h
   ·rename_i k' ch' ps' hv
    simp only [Option.some.injEq, Prod.mk.injEq] at h
    obtain ⟨rfl, rfl, rfl⟩ := h
    exact vj hX hM hgl hr hv hp
   ·cases h
  ·cases h
end
end Go.Proofs.Ytimdnodkabnbfaa
namespace Go.Proofs.Ytimdnodkabnbfaa
open Go Go.RowKit
section
variable {P : Program} {G : Gst} {w : World}
theorem KV.tm {tm tm' : Nat → Value} {k : K} {v : Value} (h : nog k = true) (hk : KV P G w tm k v) : KV P G w tm' k v := by
 induction k generalizing v with
 | grd s c cs k => cases h
 | opt cs k => cases h
 | kcons a b iha ihb =>
  simp only [nog, Bool.and_eq_true] at h
  obtain ⟨x, xs, e, h1, h2⟩ := hk
  exact ⟨x, xs, e, iha h.1 h1, ihb h.2 h2⟩
 | agg b c ih => obtain ⟨vs, h1, h2⟩ := hk; exact ⟨vs, ih h h1, h2⟩
 | clo f c ih => obtain ⟨vs, h1, h2⟩ := hk; exact ⟨vs, ih h h1, h2⟩
 | sel c a b iha ihb =>
  simp only [nog, Bool.and_eq_true] at h
  exact ⟨fun hc => iha h.1 (hk.1 hc), fun hc => ihb h.2 (hk.2 hc)⟩
 | ifc t k ih => obtain ⟨u, e, h1⟩ := hk; exact ⟨u, e, ih h h1⟩
 | _ => exact hk
end
section
variable {P : Program} {D : aK} {o : Oper} {a : Act} {G : Gst} {w : World} {tm : Nat → Value}
def iW (t : Ty) (v : Value) : Prop := v.cells.size = siz t ∧ (∀ u ∈ v.cells.toList, u.oneCell' = true) ∧ (isAgg t = true → ∃ cs, v = .agg cs) ∧ (isAgg t = false → v.oneCell' = true)
theorem nt {v : Value} (h : v.oneCell' = true) : v.cells = #[v] := by cases v <;> first | rfl | (simp [Value.oneCell'] at h)
theorem xz {t : Ty} (h1 : isAgg t = false → siz t = 1) {O : Nat → Prop} {v : Value} {x : den t} (h : aB P t O w v x) : iW t v := by
 obtain ⟨cs, rfl, hr⟩ := h
 have hc := bK hr.length h1 hr.oneCell
 refine ⟨by rw [hc]; exact hr.length, by rw [hc]; exact hr.oneCell, fun ha => ⟨cs.toArray, by unfold az; rw [if_pos ha]⟩, fun ha => ?_⟩
 unfold az
 rw [if_neg (by rw [ha]; simp)]
 match cs, hr.length.trans (h1 ha), hr.oneCell with
 | [c], _, h => exact h c (by simp)
theorem jc {t : Ty} {v : Value} (ht : isAgg t = false) (hs : siz t = 1) (h : v.oneCell' = true) : iW t v := by
 have hc := nt h
 exact ⟨by rw [hc, hs]; rfl, (by rw [hc]; intro u hu; simp at hu; rw [hu]; exact h), fun h' => (by rw [ht] at h'; cases h'), fun _ => h⟩
theorem sH : ∀ {b : Ty} {vs : List Value}, t6 b vs → (vs.flatMap fun u => u.cells.toList).length = siz b ∧ ∀ u ∈ vs.flatMap fun u => u.cells.toList, u.oneCell' = true := by
 intro b
 induction b with
 | unit => intro vs h; have h : vs = [] := h; subst h; exact ⟨rfl, by simp⟩
 | pair a b _ ihb =>
  intro vs h
  obtain ⟨v, rest, rfl, h1, h2, _, _, h5⟩ := h
  obtain ⟨k1, k2⟩ := ihb h5
  refine ⟨by simp only [List.flatMap_cons, List.length_append, k1, Array.length_toList, h1, siz], fun u hu => ?_⟩
  rw [List.flatMap_cons, List.mem_append] at hu
  exact hu.elim (h2 u) (k2 u)
 | _ => intro vs h; exact h.elim
theorem HB {t : Ty} {k : K} {v : Value} (hk : KV P G w tm k v) (h : K0 t k = true) (h1 : isAgg t = false → siz t = 1) : iW t v := by
 unfold K0 at h
 split at h
 ·rename_i t' x
  have e : t' = t := of_decide_eq_true h
  subst e
  exact xz h1 hk
 ·split at h <;> first | (cases h; done) | (have hk : v = .slice none 0 0 := hk; subst hk; exact jc rfl rfl rfl)
 ·split at h <;> first | (cases h; done) | (obtain ⟨_, aa, n, rfl⟩ := hk; exact jc rfl rfl rfl)
 ·split at h <;> first | (cases h; done) | (obtain ⟨_, _, _, _, _, _, _, rfl, _⟩ := hk; exact jc rfl rfl rfl)
 ·split at h <;> first | (cases h; done) | (obtain ⟨_, g, _, rfl⟩ := hk; exact jc rfl rfl rfl)
 ·split at h <;> first | (cases h; done) | (have hk : v = .map none := hk; subst hk; exact jc rfl rfl rfl)
 ·rename_i b c
  have e : t = .st b := of_decide_eq_true h
  subst e
  obtain ⟨vs, _, hl, rfl⟩ := hk
  obtain ⟨k1, k2⟩ := sH hl
  exact ⟨by show (vs.flatMap fun u => u.cells.toList).toArray.size = siz b; rw [List.size_toArray]; exact k1, k2, fun _ => ⟨_, rfl⟩, fun h' => by cases h'⟩
 ·cases h
theorem CS (hM : MemOk P G w) {t : Ty} {k : K} {v : Value} (hk : KV P G w tm k v) (h : e9 G.b t k = true) (h1 : isAgg t = false → siz t = 1) : iW t v := by
 unfold e9 at h
 split at h
 ·rename_i id e
  rw [Bool.and_eq_true] at h
  obtain ⟨h2, h3⟩ := h
  split at h2
  ·obtain ⟨_, rfl⟩ := hk
   split at h3
   ·rename_i e' xs hl
    obtain ⟨a0, c, hh, _⟩ := DG hM (aq hl)
    rw [hh]; exact jc rfl rfl rfl
   ·rename_i e' n zs hl
    obtain ⟨a0, hh, _⟩ := nV (hM.box id _ (aq hl))
    rw [hh]; exact jc rfl rfl rfl
   ·cases h3
  ·cases h2
 ·exact HB hk h h1
theorem H4 : ∀ {b u : Ty} {i : Nat} {vs : List Value}, t6 b vs → cV b i = some u → ∃ v, vs[i]? = some v ∧ iW u v ∧ bD b i + siz u ≤ siz b ∧
    ((vs.flatMap fun u => u.cells.toList).drop (bD b i)).take (siz u) = v.cells.toList := by
  intro b
  induction b with
  | pair a b _ ihb =>
    intro u i vs h hu
    obtain ⟨v, rest, rfl, h1, h2, h3, h4, h5⟩ := h
    cases i with
    | zero =>
      have e : a = u := Option.some.inj hu
      subst e
      refine ⟨v, rfl, ⟨h1, h2, h3, h4⟩, by simp [bD, siz], ?_⟩
      show ((v.cells.toList ++ _).drop 0).take (siz a) = _
      rw [List.drop_zero, ← h1, ← Array.length_toList, List.take_left']
      rfl
    | succ i =>
      obtain ⟨v', e1, e2, e3, e4⟩ := ihb (vs := rest) h5 hu
      refine ⟨v', e1, e2, by simp only [bD, siz]; omega, ?_⟩
      rw [show bD (.pair a b) (i + 1) = siz a + bD b i from rfl, List.flatMap_cons, ← e4, ← h1, ← Array.length_toList, List.drop_length_add_append]
  | _ => intro u i vs h hu; cases hu
theorem Kq {c : K} {i : Nat} {vs : List Value} {v : Value} (h : KV P G w tm c (.tuple vs.toArray)) (hv : vs[i]? = some v) : KV P G w tm (sS c i) v := (Bh h).1 v hv
theorem Pz : ∀ {p : List Sel} {t u : Ty} {k k' : K} {v : Value}, KV P G w tm k v → iW t v → dg t p = some u → pok t p → (isAgg u = false → siz u = 1) → Dq t k p = some k' →
    ∃ v', KV P G w tm k' v' ∧ iW u v' ∧ aJ t p + siz u ≤ siz t ∧ (v.cells.toList.drop (aJ t p)).take (siz u) = v'.cells.toList := by
  intro p
  induction p with
  | nil =>
    intro t u k k' v hk ho ht hp h1 h
    have e : t = u := by cases t <;> exact Option.some.inj ht
    subst e
    have e : k = k' := by cases t <;> cases k <;> exact Option.some.inj h
    subst e
    have e0 : aJ t [] = 0 := by cases t <;> rfl
    exact ⟨v, hk, ho, by rw [e0]; omega, by rw [e0, List.drop_zero, List.take_of_length_le (by rw [Array.length_toList, ho.1]; omega)]⟩
  | cons s p ih =>
    intro t u k k' v hk ho ht hp h1 h
    unfold Dq at h
    split at h
    · rename_i hd; cases hd
    · rename_i b' b c i q hs
      injection hs with hs1 hs2
      subst hs1 hs2
      split at h
      · rename_i e
        subst e
        split at h
        · rename_i u1 hu1
          obtain ⟨vs, hc, hl, rfl⟩ := hk
          obtain ⟨vi, e1, e2, e3, e4⟩ := H4 hl hu1
          have ht' : dg u1 p = some u := by have ht : (match cV b' i with | some t => dg t p | none => none) = some u := ht; rw [hu1] at ht; exact ht
          have hp' : pok u1 p := by have hp : (match cV b' i with | some t => pok t p | none => False) := hp; rw [hu1] at hp; exact hp
          obtain ⟨v', f1, f2, f3, f4⟩ := ih (Kq hc e1) e2 ht' hp' h1 h
          have eo : aJ (.st b') (.fld i :: p) = bD b' i + aJ u1 p := by show bD b' i + (match cV b' i with | some t => aJ t p | none => 0) = _; rw [hu1]
          refine ⟨v', f1, f2, by rw [eo]; show _ ≤ siz b'; omega, ?_⟩
          rw [eo, ← f4, ← e4]
          show ((vs.flatMap fun u => u.cells.toList).drop _).take _ = _
          apply List.ext_getElem?
          intro j
          simp only [List.getElem?_take, List.getElem?_drop]
          by_cases hj : j < siz u
          · rw [if_pos hj, if_pos hj, if_pos (by omega), Nat.add_assoc]
          · rw [if_neg hj, if_neg hj]
        · cases h
      · cases h
    · rename_i t0 t' x s' q hs
      injection hs with hs1 hs2
      subst hs1 hs2
      split at h
      · rename_i e
        subst e
        rw [ht] at h
        simp only at h
        split at h
        · rename_i y hy
          have e := (Option.some.inj h).symm
          subst e
          obtain ⟨cs, rfl, hr⟩ := hk
          obtain ⟨hle, hr'⟩ := sC ht hp hr hy
          have ha : isAgg t' = false → siz t' = 1 := fun h => by
            have := ho.2.2.2 h
            have hc := nt this
            have := ho.1
            rw [hc] at this
            exact this.symm
          have hcl := bK hr.length ha hr.oneCell
          have hcl' := bK hr'.length h1 hr'.oneCell
          refine ⟨az u _, ⟨_, rfl, hr'⟩, xz h1 ⟨_, rfl, hr'⟩, hle, ?_⟩
          rw [hcl, hcl']
        · cases h
      · cases h
    · cases h
theorem A2 : ∀ {c c' : K} {i : Nat} {vs : List Value} {k : K} {v : Value}, KV P G w tm c (.tuple vs.toArray) → KV P G w tm k v → p9 c i k = some c' → KV P G w tm c' (.tuple (vs.set i v).toArray) := by
 intro c
 induction c with
 | kcons p q _ ihq =>
  intro c' i vs k v h hk hs
  obtain ⟨x, xs, e, h1, h2⟩ := h
  have e : vs = x :: xs := by injection e with e; simpa using congrArg Array.toList e
  subst e
  cases i with
  | zero =>
   have e := (Option.some.inj hs).symm
   subst e
   exact ⟨v, xs, rfl, hk, h2⟩
  | succ i =>
   have hs : (match p9 q i k with | some b' => some (.kcons p b') | none => none) = some c' := hs
   split at hs
   ·rename_i b' hb
    have e := (Option.some.inj hs).symm
    subst e
    exact ⟨x, xs.set i v, rfl, h1, ihq h2 hk hb⟩
   ·cases hs
 | _ => intro c' i vs k v h hk hs; cases i <;> cases hs
theorem Im : ∀ {b u : Ty} {i : Nat} {vs : List Value} {v : Value}, t6 b vs → cV b i = some u → iW u v → t6 b (vs.set i v) ∧
    (vs.set i v).flatMap (fun u => u.cells.toList) = aw (vs.flatMap fun u => u.cells.toList) (bD b i) v.cells.toList := by
  intro b
  induction b with
  | pair a b _ ihb =>
    intro u i vs v h hu hv
    obtain ⟨v0, rest, rfl, h1, h2, h3, h4, h5⟩ := h
    cases i with
    | zero =>
      have e : a = u := Option.some.inj hu
      subst e
      refine ⟨⟨v, rest, rfl, hv.1, hv.2.1, hv.2.2.1, hv.2.2.2, h5⟩, ?_⟩
      unfold aw
      show v.cells.toList ++ _ = [] ++ v.cells.toList ++ (v0.cells.toList ++ _).drop (0 + v.cells.toList.length)
      rw [Nat.zero_add, Array.length_toList, hv.1, ← h1, ← Array.length_toList, List.drop_left' rfl]; rfl
    | succ i =>
      obtain ⟨k1, k2⟩ := ihb (vs := rest) h5 hu hv
      refine ⟨⟨v0, _, rfl, h1, h2, h3, h4, k1⟩, ?_⟩
      rw [List.set_cons_succ, List.flatMap_cons, List.flatMap_cons, k2, show bD (.pair a b) (i + 1) = siz a + bD b i from rfl]
      unfold aw
      rw [← h1, ← Array.length_toList, List.take_length_add_append, Nat.add_assoc, List.drop_length_add_append]
      simp only [List.append_assoc]
  | _ => intro u i vs v h hu; cases hu
theorem Pc (hM : MemOk P G w) {kn : K} {vn : Value} (hkn : KV P G w tm kn vn) {u : Ty} (hu : iW u vn) (h1 : isAgg u = false → siz u = 1) : ∀ {p : List Sel} {t : Ty} {k k' : K} {v : Value}, KV P G w tm k v → iW t v → dg t p = some u → pok t p → mz G.b t k p kn = some k' →
    ∃ v', KV P G w tm k' v' ∧ iW t v' ∧ aJ t p + siz u ≤ siz t ∧ v'.cells.toList = aw v.cells.toList (aJ t p) vn.cells.toList := by
  intro p
  induction p with
  | nil =>
    intro t k k' v hk ho ht hp h
    have e : t = u := by cases t <;> exact Option.some.inj ht
    subst e
    have h : (if e9 G.b t kn then some kn else none) = some k' := by cases t <;> cases k <;> exact h
    split at h
    · have e := (Option.some.inj h).symm
      subst e
      have e0 : aJ t [] = 0 := by cases t <;> rfl
      refine ⟨vn, hkn, hu, by rw [e0]; omega, ?_⟩
      rw [e0]
      unfold aw
      rw [List.take_zero, List.nil_append, Nat.zero_add, List.drop_of_length_le (by rw [Array.length_toList, Array.length_toList, ho.1, hu.1]; omega), List.append_nil]
    · cases h
  | cons s p ih =>
    intro t k k' v hk ho ht hp h
    unfold mz at h
    split at h
    · rename_i hd; cases hd
    · rename_i b' b c i q hs
      injection hs with hs1 hs2
      subst hs1 hs2
      split at h
      · rename_i e
        subst e
        split at h
        · rename_i u1 hu1
          split at h
          · rename_i k1 hk1
            split at h
            · rename_i c' hc'
              have e := (Option.some.inj h).symm
              subst e
              obtain ⟨vs, hc, hl, rfl⟩ := hk
              obtain ⟨vi, e1, e2, e3, e4⟩ := H4 hl hu1
              have ht' : dg u1 p = some u := by have ht : (match cV b' i with | some t => dg t p | none => none) = some u := ht; rw [hu1] at ht; exact ht
              have hp' : pok u1 p := by have hp : (match cV b' i with | some t => pok t p | none => False) := hp; rw [hu1] at hp; exact hp
              obtain ⟨v1, f1, f2, f3, f4⟩ := ih (Kq hc e1) e2 ht' hp' hk1
              have eo : aJ (.st b') (.fld i :: p) = bD b' i + aJ u1 p := by show bD b' i + (match cV b' i with | some t => aJ t p | none => 0) = _; rw [hu1]
              obtain ⟨g1, g2⟩ := Im hl hu1 f2
              obtain ⟨g3, g4⟩ := sH g1
              have hlen := (sH hl).1
              refine ⟨.agg ((vs.set i v1).flatMap fun u => u.cells.toList).toArray, ⟨_, A2 hc f1 hc', g1, rfl⟩, ⟨by show ((vs.set i v1).flatMap fun u => u.cells.toList).toArray.size = siz b'; rw [List.size_toArray]; exact g3, (by show ∀ u ∈ (vs.set i v1).flatMap (fun u => u.cells.toList), u.oneCell' = true; exact g4), fun _ => ⟨_, rfl⟩, fun h => (by cases h)⟩, by rw [eo]; show _ ≤ siz b'; omega, ?_⟩
              show (vs.set i v1).flatMap (fun u => u.cells.toList) = aw (vs.flatMap fun u => u.cells.toList) _ _
              rw [g2, f4, eo, ← e4]
              have hvn : vn.cells.toList.length = siz u := by rw [Array.length_toList]; exact hu.1
              have hvi : (((vs.flatMap fun u => u.cells.toList).drop (bD b' i)).take (siz u1)).length = siz u1 := by rw [e4, Array.length_toList]; exact e2.1
              exact kB (by rw [hvi, hvn]; exact f3) (by rw [hvi, hlen]; exact e3) (by rw [hvi])
            · cases h
          · cases h
        · cases h
      · cases h
    · rename_i t0 t' x s' q hs
      injection hs with hs1 hs2
      subst hs1 hs2
      split at h
      · rename_i e
        subst e
        split at h
        · rename_i z hz
          have e := (Option.some.inj h).symm
          subst e
          obtain ⟨cs, rfl, hr⟩ := hk
          have ha : isAgg t' = false → siz t' = 1 := fun h => by
            have := ho.2.2.2 h
            have hc := nt this
            have := ho.1
            rw [hc] at this
            exact this.symm
          have hcl := bK hr.length ha hr.oneCell
          have hv : ∀ {kq : K}, KV P G w tm kq vn → ∀ y, bt u kq = some y → Rep P u .cells G.av w vn.cells.toList y := fun {kq} hkq y hy => by
            obtain ⟨cs0, rfl, hr0⟩ := cu hkq hy
            rw [bK hr0.length h1 hr0.oneCell]
            exact hr0
          obtain ⟨hle, hr'⟩ := sx (hv hkn) ht hp hr hz
          have hcl' := bK hr'.length ha hr'.oneCell
          refine ⟨az t' _, ⟨_, rfl, hr'⟩, xz ha ⟨_, rfl, hr'⟩, hle, ?_⟩
          rw [hcl, hcl']
        · cases h
      · cases h
    · cases h
end
end Go.Proofs.Ytimdnodkabnbfaa
namespace Go.Proofs.Ytimdnodkabnbfaa
open Go Go.RowKit
section
variable {P : Program} {D : aK} {o : Oper} {a : Act} {G : Gst} {w : World} {tm : Nat → Value}
theorem Nb (hD : DOk P D) {t : TypeId} {e : Ty} (ht : D.ty t = some (.slc e)) {kl kc : IntKind} {n : Int} (h0 : 0 ≤ n) (hn : n.toNat * siz e ≤ 16777216) :
    ∃ cs eid, cs.size = n.toNat * siz e ∧ RepAll (Rep P e .cells G.av w) (siz e) cs.toList (List.replicate n.toNat (zero e)) ∧ (Instr.makeSlice t (.int kl n) (.int kc n)).run P w = .ok (.slice (some ⟨w.heap.size, 0, none⟩) n.toNat n.toNat) (w.alloc (.cells cs eid)) := by
  have hfit := hD.fit ht
  obtain ⟨ei, hun, hte, hse⟩ := aY hfit.shape
  have hpl : plain e = true := hfit.plain
  obtain ⟨z1, z2⟩ := CF (P := P) (G := G) (w := w) hpl n.toNat
  have hfe := hD.fit hte
  have h1 := eW hfe
  obtain ⟨i, z, hi, hs, hb, hz, ez⟩ := hfe.info
  have hzl := bz e
  have hzc : z.cells = (aQ e).toArray := by rw [ez]; exact bK (bz e) h1 (eN P G.av w e hpl).oneCell
  have hcells : madeCells z.cells (n.toNat * i.size) = (List.replicate n.toNat (aQ e)).flatten.toArray := by
    unfold madeCells
    rw [hzc, hs]
    apply Array.ext'
    rw [← ye n.toNat, hzl]
    by_cases h0 : n.toNat * siz e = 0
    · simp [h0]
    · simp [h0, hzl]
  have hnn : n.toNat ≤ 16777216 := by
    have : n.toNat * 1 ≤ n.toNat * siz e := Nat.mul_le_mul_left _ hse
    omega
  have hn2 : n ≤ 16777216 := by omega
  have hbb : (i.bytes : Int) * n ≤ 281474976710656 := by
    have h1 : (i.bytes : Int) * n ≤ 65536 * n := Int.mul_le_mul_of_nonneg_right (by omega) h0
    omega
  refine ⟨_, ei, ?_, z2, by rw [run_make w t ei i z hun hi hz kl kc n n h0 (Int.le_refl _) hbb (by omega), hcells]⟩
  rw [List.size_toArray, z1, List.length_replicate]
theorem K9 (hD : DOk P D) (hM : MemOk P G w) {t : TypeId} {l c : Operand} (ho : o.op = .makeSlice t l c) {e : Ty} (ht : D.ty t = some (.slc e)) {kl kc : IntKind} {n : Int} (hl : a.eval l = .int kl n) (hc : a.eval c = .int kc n) (h0 : 0 ≤ n) (hn : n.toNat * siz e ≤ 16777216) :
    ak P o a G w tm (.val (.slc e) (List.replicate n.toNat (zero e))) [] := by
  obtain ⟨cs, eid, hs, hR, hrun⟩ := Nb (G := G) (w := w) hD ht (kl := kl) (kc := kc) h0 hn
  have hk := Kept.alloc w (.cells cs eid)
  obtain ⟨hM', hE⟩ := hM.kept_on hk
  have hlat := hE.lat
  obtain ⟨_, _, _, hse⟩ := aY (hD.fit ht).shape
  have hnm : n.toNat ≤ maxLen := by
    have : n.toNat * 1 ≤ n.toNat * siz e := Nat.mul_le_mul_left _ hse
    unfold maxLen
    omega
  have hll : (List.replicate n.toNat (zero e)).length = n.toNat := List.length_replicate
  refine bp (v := .slice (some ⟨w.heap.size, 0, none⟩) n.toNat n.toNat) (w' := w.alloc (.cells cs eid)) (G' := G) ?_ rfl hE hM' ?_
  · simp only [execOp, ho, hl, hc, Sem.run_bind, hrun, Result.andThen_ok, Sem.run_pure]
  · refine ⟨[.slice (some ⟨w.heap.size, 0, none⟩) n.toNat n.toNat], rfl, some ⟨w.heap.size, 0, none⟩, n.toNat, cs.toList, by rw [hll], by rw [hll]; exact Nat.le_refl _, hnm, by rw [hll, Array.length_toList, hs], hR.imp fun _ _ q => q.lat hlat, fun _ => ⟨_, rfl, fun h => ?_, by simp, fun j u hj => ?_⟩, fun h => by cases h⟩
    · exact absurd (o4 hM h) (Nat.lt_irrefl _)
    · rw [cS, Nat.zero_add, cell_of_row _ w.heap.size j cs eid (0, 0) (je w _)]
      simpa using hj
theorem KO (hD : DOk P D) (hM : MemOk P G w) {t : TypeId} {l c : Operand} (ho : o.op = .makeSlice t l c) {e : Ty} (ht : D.ty t = some (.slc e)) {kl kc : IntKind} {n : Int} (hl : a.eval l = .int kl n) (hc : a.eval c = .int kc n) (h0 : 0 ≤ n) (hn : n.toNat * siz e ≤ 16777216) {id : Nat} (hf : aX G.b id = true) :
    ak P o a G w tm (.sl id e) [(id, .live (.row e (List.replicate n.toNat (zero e))))] := by
  obtain ⟨cs, eid, hs, hR, hrun⟩ := Nb (G := G) (w := w) hD ht (kl := kl) (kc := kc) h0 hn
  have hk := Kept.alloc w (.cells cs eid)
  obtain ⟨_, _, _, hse⟩ := aY (hD.fit ht).shape
  have hnm : n.toNat ≤ maxLen := by
    have : n.toNat * 1 ≤ n.toNat * siz e := Nat.mul_le_mul_left _ hse
    unfold maxLen
    omega
  have hll : (List.replicate n.toNat (zero e)).length = n.toNat := List.length_replicate
  have hadd := hM.add (P := P) hk (id := id) (g := w.heap.size) (h := .slice (some ⟨w.heap.size, 0, none⟩) n.toNat n.toNat) (x := .row e (List.replicate n.toNat (zero e))) (bP hf) (Nat.le_refl _) (fun G' hE hh hb _ =>
    .inr ⟨w.heap.size, cs, eid, 0, [], hb, by rw [hh, List.append_nil, hll], by unfold Gst.nb; rw [hE.w0]; exact .inl hM.kept.size, .of (je w _), by rw [List.append_nil, hll]; exact hnm, by rw [List.append_nil, hll, hs]; omega, by
      rw [List.append_nil, List.drop_zero, hll, ← hs, ← Array.length_toList, List.take_length]
      exact hR.imp fun _ _ q => q.lat hE.lat⟩)
  refine bp (v := .slice (some ⟨w.heap.size, 0, none⟩) n.toNat n.toNat) ?_ rfl hadd.2 hadd.1 ⟨⟨.row e (List.replicate n.toNat (zero e)), .inl (by simp [Gst.add])⟩, by simp [Gst.add]⟩
  simp only [execOp, ho, hl, hc, Sem.run_bind, hrun, Result.andThen_ok, Sem.run_pure]
theorem kI (s : ByteArray) : (dP s).length = s.size := by
 unfold dP
 rw [List.length_map, Array.length_toList]
 rfl
theorem FU (s : ByteArray) {cap : Nat} (hc : s.size ≤ cap) : (bytesRow s cap).size = cap ∧ (bytesRow s cap).toList = (dP s ++ List.replicate (cap - s.size) (0 : Int)).map (Value.int .u8) := by
 have h1 : (bytesRow s cap).toList = (dP s ++ List.replicate (cap - s.size) (0 : Int)).map (Value.int .u8) := by
  simp [bytesRow, dP]
 refine ⟨?_, h1⟩
 rw [← Array.length_toList, h1]
 simp [kI]
 omega
theorem CR {k : IntKind} {O : Nat → Prop} : ∀ (xs : List Int), (∀ x ∈ xs, InK k x) → RepAll (fun cs x => Rep P (.int k) .cells O w cs x) 1 (xs.map (Value.int k)) xs
 | [], _ => rfl
 | x :: xs, h => ⟨⟨rfl, h x (List.mem_cons_self ..)⟩, CR xs fun y hy => h y (List.mem_cons_of_mem _ hy)⟩
theorem FS (s : ByteArray) : ∀ x ∈ dP s, InK .u8 x := by
 intro x hx
 obtain ⟨b, _, rfl⟩ := List.mem_map.1 hx
 have := b.toNat_lt
 have e1 : IntKind.u8.min = 0 := rfl
 have e2 : IntKind.u8.max = 255 := rfl
 exact ⟨by omega, by omega⟩
theorem Jf (hD : DOk P D) (hM : MemOk P G w) {src dst : TypeId} {x : Operand} (ho : o.op = .convert src dst x) (hs : D.ty src = some .str) (ht : D.ty dst = some (.slc (.int .u8))) {s : ByteArray} (hx : KV P G w tm (.val .str s) (a.eval x)) (hm : s.size ≤ bV) :
    ak P o a G w tm (.val (.slc (.int .u8)) (dP s)) [] := by
  obtain ⟨ei, hu, hte, _⟩ := aY (hD.fit ht).shape
  have he := fD (hD.fit hte).shape
  have hd := gg (hD.fit hs).shape
  obtain ⟨cs, ev, rfl, _⟩ := hx
  have ev : a.eval x = .string s := ev
  have hml : s.size ≤ maxLen := by unfold bV at hm; unfold maxLen; omega
  have hc : s.size ≤ grownCap w s.size 0 ei := grownCap_ge w s.size 0 ei
  have hcm : grownCap w s.size 0 ei ≤ maxLen := grownCap_le_maxLen w s.size 0 ei (by unfold bV at hm; omega)
  obtain ⟨b1, b2⟩ := FU s hc
  have hrun := run_bytes_of_string w src dst ei s hd hu he
  have hk : Kept w (w.drew.alloc (.cells (bytesRow s (grownCap w s.size 0 ei)) ei ((bytesRow s (grownCap w s.size 0 ei)).size, (bytesRow s (grownCap w s.size 0 ei)).size + 1))) := (Kept.drew w).trans (Kept.alloc w.drew _)
  obtain ⟨hM', hE⟩ := hM.kept_on hk
  refine bp (v := .slice (some ⟨w.heap.size, 0, none⟩) s.size (grownCap w s.size 0 ei)) (w' := w.drew.alloc (.cells (bytesRow s (grownCap w s.size 0 ei)) ei ((bytesRow s (grownCap w s.size 0 ei)).size, (bytesRow s (grownCap w s.size 0 ei)).size + 1))) (G' := G) (by simp only [execOp, ho, ev, Sem.run_bind, hrun, Result.andThen_ok, Sem.run_pure]) rfl hE hM' ?_
  refine ⟨[.slice (some ⟨w.heap.size, 0, none⟩) s.size (grownCap w s.size 0 ei)], rfl, some ⟨w.heap.size, 0, none⟩, grownCap w s.size 0 ei, (dP s).map (Value.int .u8), by rw [kI], by rw [kI]; exact hc, hcm, by rw [List.length_map]; show _ = _ * 1; omega, CR _ (FS s), fun _ => ⟨_, rfl, fun h => absurd (o4 hM h) (Nat.lt_irrefl _), by simp, fun j u hj => ?_⟩, fun h => by cases h⟩
  rw [cS, Nat.zero_add, cell_of_row _ w.heap.size j _ ei _ (heap_alloc_new w.drew _), ← Array.getElem?_toList, b2, List.map_append, List.getElem?_append_left (List.getElem?_eq_some_iff.1 hj).1]
  exact hj
theorem Jt (hD : DOk P D) (hM : MemOk P G w) {src dst : TypeId} {x : Operand} (ho : o.op = .convert src dst x) (hs : D.ty src = some .str) (ht : D.ty dst = some (.slc (.int .u8))) {s : ByteArray} (hx : KV P G w tm (.val .str s) (a.eval x)) (hm : s.size ≤ bV) {id : Nat} (hf : aX G.b id = true) :
    ak P o a G w tm (.sl id (.int .u8)) [(id, .live (.row (.int .u8) (dP s)))] := by
  obtain ⟨ei, hu, hte, _⟩ := aY (hD.fit ht).shape
  have he := fD (hD.fit hte).shape
  have hd := gg (hD.fit hs).shape
  obtain ⟨cs, ev, rfl, _⟩ := hx
  have ev : a.eval x = .string s := ev
  have hc : s.size ≤ grownCap w s.size 0 ei := grownCap_ge w s.size 0 ei
  have hcm : grownCap w s.size 0 ei ≤ maxLen := grownCap_le_maxLen w s.size 0 ei (by unfold bV at hm; omega)
  obtain ⟨b1, b2⟩ := FU s hc
  have hrun := run_bytes_of_string w src dst ei s hd hu he
  have hk : Kept w (w.drew.alloc (.cells (bytesRow s (grownCap w s.size 0 ei)) ei ((bytesRow s (grownCap w s.size 0 ei)).size, (bytesRow s (grownCap w s.size 0 ei)).size + 1))) := (Kept.drew w).trans (Kept.alloc w.drew _)
  have hall : (dP s ++ List.replicate (grownCap w s.size 0 ei - s.size) (0 : Int)).length = grownCap w s.size 0 ei := by rw [List.length_append, List.length_replicate, kI]; omega
  have hadd := hM.add (P := P) hk (id := id) (g := w.heap.size) (h := .slice (some ⟨w.heap.size, 0, none⟩) s.size (grownCap w s.size 0 ei)) (x := .row (.int .u8) (dP s)) (bP hf) (Nat.le_refl _) (fun G' hE hh hb _ =>
    .inr ⟨w.heap.size, _, ei, 0, List.replicate (grownCap w s.size 0 ei - s.size) (0 : Int), hb, by rw [hh, kI]; congr 1; exact hall.symm, by unfold Gst.nb; rw [hE.w0]; exact .inl hM.kept.size, ⟨_, heap_alloc_new w.drew _, .inr ⟨rfl, Nat.le_refl _⟩⟩, by
      show (dP s ++ List.replicate (grownCap w s.size 0 ei - s.size) (0 : Int)).length ≤ _
      rw [hall]; exact hcm, by
      show 0 + (dP s ++ List.replicate (grownCap w s.size 0 ei - s.size) (0 : Int)).length * 1 ≤ _
      rw [hall, b1]; omega, by
      show RepAll _ 1 (((bytesRow s (grownCap w s.size 0 ei)).toList.drop 0).take ((dP s ++ List.replicate (grownCap w s.size 0 ei - s.size) (0 : Int)).length * 1)) (dP s ++ List.replicate (grownCap w s.size 0 ei - s.size) (0 : Int))
      rw [List.drop_zero, b2, List.take_of_length_le (by rw [List.length_map]; omega)]
      refine CR _ fun y hy => ?_
      rcases List.mem_append.1 hy with h | h
      · exact FS s y h
      · rw [(List.mem_replicate.1 h).2]; exact pI _⟩)
  exact bp (v := .slice (some ⟨w.heap.size, 0, none⟩) s.size (grownCap w s.size 0 ei)) (w' := w.drew.alloc (.cells (bytesRow s (grownCap w s.size 0 ei)) ei ((bytesRow s (grownCap w s.size 0 ei)).size, (bytesRow s (grownCap w s.size 0 ei)).size + 1))) (by simp only [execOp, ho, ev, Sem.run_bind, hrun, Result.andThen_ok, Sem.run_pure]) rfl hadd.2 hadd.1 ⟨⟨.row (.int .u8) (dP s), .inl (by simp [Gst.add])⟩, by simp [Gst.add]⟩
theorem M6 (hD : DOk P D) (hM : MemOk P G w) {src dst : TypeId} {x : Operand} (ho : o.op = .convert src dst x) (hs : D.ty src = some (.slc (.int .u8))) (ht : D.ty dst = some .str) {j : Nat} {e' : Ty} (hx : KV P G w tm (.sl j e') (a.eval x)) {xs : List Int} (hl : ao G.b j = some (.row (.int .u8) xs)) :
    ak P o a G w tm (.val .str (gY xs)) [] := by
  obtain ⟨ei, hu, hte, _⟩ := aY (hD.fit hs).shape
  have he := fD (hD.fit hte).shape
  have hd := gg (hD.fit ht).shape
  obtain ⟨_, ev⟩ := hx
  have hb := mq hM (aq hl)
  rw [← ev] at hb
  obtain ⟨cs, ev, a0, c, L, rfl, h2, h3, h4, h5, h6, h7⟩ := hb
  have ev : a.eval x = .slice a0 xs.length c := ev
  refine aC hM (v := .string (gY xs)) ?_ ⟨[.string (gY xs)], rfl, rfl, by rw [zC]; exact Nat.le_trans h2 h3⟩
  simp only [execOp, ho, ev, Sem.run_bind, Dp hu he hd h5 (fun h => by obtain ⟨ad, e, _, _, q⟩ := h6 h; exact ⟨ad, e, q⟩), Result.andThen_ok, Sem.run_pure]
end
end Go.Proofs.Ytimdnodkabnbfaa
