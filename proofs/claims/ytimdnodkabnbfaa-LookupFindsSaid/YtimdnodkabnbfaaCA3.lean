/- Part 3 of 10 of what this claim's proof stands on: a theory of programs on data, and the contracts of the functions that the law reaches. It holds no condition of its own. -/
import Derived.Test.YtimdnodkabnbfaaCA2
import Derived.WalkSpells
import Derived.Lib.AppendZerosOnto
import Derived.Laws.Externs
import Derived.Lib.Overlaps
import Derived.Laws.MakeOwn
import Derived.Laws.IdiomStrings
import Derived.Maps.RangeRun
import Derived.DeepKeys3
namespace Go.Proofs.Ytimdnodkabnbfaa
open Go Go.RowKit
section
variable {P : Program} {D : aJ} {o : Oper} {a : Act} {G : Gst} {w : World} {tm : Nat → Value}
theorem fd {r : Operand → K} (hr : ∀ x, KV P G w tm (r x) (a.eval x)) {d : Int} {hi : Option Operand} {h : Int} (hh : (match hi with | none => some d | some o => gS (r o)) = some h) : (hi = none ∧ h = d) ∨ ∃ q k, hi = some q ∧ a.eval q = .int k h := by
 cases hi with
 | none => exact .inl ⟨rfl, (Option.some.inj hh).symm⟩
 | some q =>
  obtain ⟨k, e⟩ := js (hr q) hh
  exact .inr ⟨q, k, rfl, e⟩
set_option maxHeartbeats 1000000 in
theorem IN (hD : DOk P D) (hM : MemOk P G w) (hgl : GlobOk P D.G G.av w) {r : Operand → K} (hr : ∀ x, KV P G w tm (r x) (a.eval x)) {c : Call} (ho : o.op = .call c) {id : Nat} {k : K} {ch : Chg} {ps : List Prop} (h : db D o r G.b id = some (k, ch, ps)) (hp : ∀ p ∈ ps, p) :
    aj P o a G w tm k ch := by
  unfold db at h
  simp only [ho] at h
  split at h
  ·
    rename_i hc
    split at h
    · rename_i x t hx ht
      split at h
      · rename_i n hn
        simp only [Option.some.injEq, Prod.mk.injEq] at h
        obtain ⟨rfl, rfl, rfl⟩ := h
        obtain ⟨at0, h0, ht⟩ := Option.bind_eq_some_iff.1 ht
        exact NL hD hM ho hc hx h0 ht (hr x) hn
      · cases h
    · cases h
  ·
    rename_i hc
    split at h
    · rename_i x l hx
      split at h
      · rename_i k' hk
        simp only [Option.some.injEq, Prod.mk.injEq] at h
        obtain ⟨rfl, rfl, rfl⟩ := h
        exact FN (mx := false) hM ho hc hx hr hk
      · cases h
    · cases h
  ·
    rename_i hc
    split at h
    · rename_i x l hx
      split at h
      · rename_i k' hk
        simp only [Option.some.injEq, Prod.mk.injEq] at h
        obtain ⟨rfl, rfl, rfl⟩ := h
        exact FN (mx := true) hM ho hc hx hr hk
      · cases h
    · cases h
  ·
    rename_i hc
    split at h
    · rename_i x y t t' hx ht
      split at h
      · rename_i et
        subst et
        have h0 : c.argTypes = #[t', t'] := by apply Array.ext'; rw [ht]
        split at h
        · rename_i e hte
          split at h
          · rename_i ys hys
            have hs := I9 hM (hr y) hys
            split at h
            · rename_i j e1 hj
              have hkx := hr x
              rw [hj] at hkx
              split at h
              · rename_i e' xs hb
                split at h
                · rename_i xs' hc'
                  obtain ⟨ee, rfl⟩ := ci hc'
                  cases ee
                  split at h
                  · rename_i hf
                    simp only [Option.some.injEq, Prod.mk.injEq] at h
                    obtain ⟨rfl, rfl, rfl⟩ := h
                    exact GG hD hM ho hc hx h0 hte hkx hb hs hf (hp _ (by simp))
                  · cases h
                · cases h
              · cases h
            · rename_i hj
              have hkx := hr x
              rw [hj] at hkx
              split at h
              · rename_i hf
                simp only [Option.some.injEq, Prod.mk.injEq] at h
                obtain ⟨rfl, rfl, rfl⟩ := h
                exact wZ hD hM ho hc hx h0 hte (Jp hkx) hs hf (hp _ (by simp)) (.inl rfl)
              · cases h
            · rename_i e' xs hj
              have hkx := hr x
              rw [hj] at hkx
              split at h
              · rename_i xs' hc'
                obtain ⟨ee, rfl⟩ := ci hc'
                cases ee
                split at h
                · rename_i hf
                  simp only [Option.some.injEq, Prod.mk.injEq] at h
                  obtain ⟨rfl, rfl, rfl⟩ := h
                  exact wZ hD hM ho hc hx h0 hte hkx hs hf (hp _ (by simp)) (hp _ (by simp))
                · cases h
              · cases h
            · cases h
          · cases h
        · cases h
      · cases h
    · cases h
  ·
    rename_i f hc
    split at h
    · rename_i S hS
      split at h
      · rename_i x hx
        simp only [Option.some.injEq, Prod.mk.injEq] at h
        obtain ⟨rfl, rfl, rfl⟩ := h
        exact Nk hD hM hgl ho hc hS hr hx (hp _ (by simp))
      · cases h
    · cases h
  ·
    rename_i q _ hc
    split at h
    · rename_i as rs g hq
      split at h
      · rename_i y hy
        simp only [Option.some.injEq, Prod.mk.injEq] at h
        obtain ⟨rfl, rfl, rfl⟩ := h
        have hkq := hr q
        rw [hq] at hkq
        exact MO hM ho hc hkq hr hy (hp _ (by simp))
      · cases h
    · cases h
  · cases h
set_option maxHeartbeats 1000000 in
theorem II (hD : DOk P D) (hh : eR D = true) (hM : MemOk P G w) (hgl : GlobOk P D.G G.av w) {r : Operand → K} (hr : ∀ x, KV P G w tm (r x) (a.eval x)) {id : Nat} {k : K} {ch : Chg} {ps : List Prop} (h : db D o r G.b id = some (k, ch, ps)) (hp : ∀ p ∈ ps, p) :
    aj P o a G w tm k ch := by
  have h' := h
  unfold db at h
  split at h
  · rename_i x ho
    simp only [Option.some.injEq, Prod.mk.injEq] at h
    obtain ⟨rfl, rfl, rfl⟩ := h
    exact KB hM (.inl ho) (hr x)
  · rename_i x ho
    simp only [Option.some.injEq, Prod.mk.injEq] at h
    obtain ⟨rfl, rfl, rfl⟩ := h
    exact KB hM (.inr ho) (hr x)
  ·
    rename_i e ho
    split at h
    · rename_i t ht
      split at h
      · rename_i hf
        simp only [Option.some.injEq, Prod.mk.injEq] at h
        obtain ⟨rfl, rfl, rfl⟩ := h
        exact MG hD hM ho ht hf
      · cases h
    · cases h
  ·
    rename_i e x ho
    split at h
    · rename_i t ht
      split at h
      · rename_i v hv
        split at h
        · rename_i hf
          simp only [Option.some.injEq, Prod.mk.injEq] at h
          obtain ⟨rfl, rfl, rfl⟩ := h
          exact NC hD hM ho ht hf (hr x) hv
        · cases h
      · cases h
    · cases h
  ·
    rename_i e parts ho
    split at h
    · rename_i bd ht
      split at h
      · rename_i v hv
        simp only [Option.some.injEq, Prod.mk.injEq] at h
        obtain ⟨rfl, rfl, rfl⟩ := h
        exact IW hD hM ho ht hr hv
      · cases h
    · rename_i n e' ht
      split at h
      · rename_i v hv
        simp only [Option.some.injEq, Prod.mk.injEq] at h
        obtain ⟨rfl, rfl, rfl⟩ := h
        exact HF hD hM ho ht hr hv
      · cases h
    · cases h
  ·
    rename_i t n parts ho
    split at h
    · rename_i e ht
      split at h
      · cases h
      · rename_i hn
        split at h
        · rename_i xs hv
          split at h
          · rename_i d hd
            split at h
            · split at h
              · rename_i hf
                simp only [Option.some.injEq, Prod.mk.injEq] at h
                obtain ⟨rfl, rfl, rfl⟩ := h
                exact AS hD hM ho ht hr hn hv hf
              · cases h
            · simp only [Option.some.injEq, Prod.mk.injEq] at h
              obtain ⟨rfl, rfl, rfl⟩ := h
              exact AA hD hM ho ht hr hn hv
          · cases h
        · cases h
    · cases h
  ·
    rename_i t x ho
    split at h
    · rename_i u ht
      split at h
      · rename_i i base p hx
        have hkx := hr x
        rw [hx] at hkx
        split at h
        · rename_i bx hb
          split at h
          · rename_i hbase
            split at h
            · rename_i hta
              split at h
              · rename_i v hv
                simp only [Option.some.injEq, Prod.mk.injEq] at h
                obtain ⟨rfl, rfl, rfl⟩ := h
                exact IP hD hM ht ho hkx hb hbase (yq hp) hta hv
              · cases h
            · cases h
          · cases h
        · cases h
      · rename_i t' y hx
        have hkx := hr x
        rw [hx] at hkx
        split at h
        · rename_i e
          subst e
          simp only [Option.some.injEq, Prod.mk.injEq] at h
          obtain ⟨rfl, rfl, rfl⟩ := h
          exact Jy hD hM ht ho hkx
        · cases h
      · cases h
    · cases h
  ·
    rename_i t x v ho
    split at h
    · rename_i u ht
      split at h
      · rename_i i base p hx
        have hkx := hr x
        rw [hx] at hkx
        split at h
        · rename_i bx hb
          split at h
          · rename_i hbase
            split at h
            · rename_i hta
              split at h
              · rename_i y hy
                split at h
                · rename_i bx' hn
                  simp only [Option.some.injEq, Prod.mk.injEq] at h
                  obtain ⟨rfl, rfl, rfl⟩ := h
                  exact HZ hD hM ht ho hkx (hr v) hy hb hbase (yq hp) hta hn
                · cases h
              · cases h
            · cases h
          · cases h
        · cases h
      · cases h
    · cases h
  ·
    rename_i x ho
    split at h
    · rename_i i base p hx
      have hkx := hr x
      rw [hx] at hkx
      simp only [Option.some.injEq, Prod.mk.injEq] at h
      obtain ⟨rfl, rfl, rfl⟩ := h
      exact Dc hM ho hkx
    · rename_i t y hx
      have hkx := hr x
      rw [hx] at hkx
      simp only [Option.some.injEq, Prod.mk.injEq] at h
      obtain ⟨rfl, rfl, rfl⟩ := h
      exact Dv hM ho hkx
    · cases h
  ·
    rename_i op tx x y ty ho
    split at h
    · rename_i k' ps' hb
      simp only [Option.some.injEq, Prod.mk.injEq] at h
      obtain ⟨rfl, rfl, rfl⟩ := h
      exact M4 hD hh hM ho (hr x) (hr y) hb hp
    · cases h
  ·
    rename_i op tx x ho
    split at h
    · rename_i c hx
      have hkx := hr x
      rw [hx] at hkx
      simp only [Option.some.injEq, Prod.mk.injEq] at h
      obtain ⟨rfl, rfl, rfl⟩ := h
      exact NJ hM ho hkx
    · rename_i k' n hx
      have hkx := hr x
      rw [hx] at hkx
      simp only [Option.some.injEq, Prod.mk.injEq] at h
      obtain ⟨rfl, rfl, rfl⟩ := h
      exact NI hM ho hkx
    · cases h
  ·
    rename_i src dst x ho
    split at h
    · rename_i k' k'' n ht hx
      have hkx := hr x
      rw [hx] at hkx
      split at h
      · rename_i hs
        simp only [Option.some.injEq, Prod.mk.injEq] at h
        obtain ⟨rfl, rfl, rfl⟩ := h
        exact Ed hD hM ho hs ht hkx
      · cases h
    · rename_i xs ht hx
      have hkx := hr x
      rw [hx] at hkx
      split at h
      · rename_i hs
        simp only [Option.some.injEq, Prod.mk.injEq] at h
        obtain ⟨rfl, rfl, rfl⟩ := h
        exact EF hD hM ho hs ht hkx
      · cases h
    · cases h
  ·
    rename_i tx x i ho
    split at h
    · rename_i b' bd y ht hx
      have hkx := hr x
      rw [hx] at hkx
      split at h
      · rename_i e
        subst e
        split at h
        · rename_i t z hz
          simp only [Option.some.injEq, Prod.mk.injEq] at h
          obtain ⟨rfl, rfl, rfl⟩ := h
          exact Mu hD hM ho ht hkx hz (tH hz)
        · cases h
      · cases h
    · cases h
  ·
    rename_i s x i ho
    split at h
    · rename_i bd ht
      split at h
      · rename_i j base p hx
        have hkx := hr x
        rw [hx] at hkx
        split at h
        · rename_i hta
          split at h
          · rename_i u hu
            simp only [Option.some.injEq, Prod.mk.injEq] at h
            obtain ⟨rfl, rfl, rfl⟩ := h
            exact BH hD hM ho ht hkx hta hu
          · cases h
        · cases h
      · rename_i b' y hx
        have hkx := hr x
        rw [hx] at hkx
        split at h
        · rename_i e
          subst e
          split at h
          · rename_i t z hz
            simp only [Option.some.injEq, Prod.mk.injEq] at h
            obtain ⟨rfl, rfl, rfl⟩ := h
            exact Cd hD hM ho ht hkx hz
          · cases h
        · cases h
      · cases h
    · cases h
  ·
    rename_i tx x i ho
    split at h
    · rename_i e k' n ht hi
      have hki := hr i
      rw [hi] at hki
      split at h
      · rename_i e' xs hx
        have hkx := hr x
        rw [hx] at hkx
        split at h
        · rename_i ee
          subst ee
          simp only [Option.some.injEq, Prod.mk.injEq] at h
          obtain ⟨rfl, rfl, rfl⟩ := h
          exact tp hD hM ho ht hki hkx (hp _ (by simp))
        · cases h
      · rename_i e' xs hx
        have hkx := hr x
        rw [hx] at hkx
        split at h
        · rename_i ee
          subst ee
          simp only [Option.some.injEq, Prod.mk.injEq] at h
          obtain ⟨rfl, rfl, rfl⟩ := h
          exact tp hD hM ho ht hki hkx.1 (hp _ (by simp))
        · cases h
      · rename_i j e' hx
        have hkx := hr x
        rw [hx] at hkx
        split at h
        · rename_i ee
          subst ee
          split at h
          · rename_i e'' xs hb
            split at h
            · rename_i ee'
              subst ee'
              simp only [Option.some.injEq, Prod.mk.injEq] at h
              obtain ⟨rfl, rfl, rfl⟩ := h
              exact CF hD hM ho ht hki hkx hb (hp _ (by simp))
            · cases h
          · cases h
        · cases h
      · cases h
    · rename_i m e k' n ht hi
      have hki := hr i
      rw [hi] at hki
      split at h
      · rename_i m' e' xs hx
        have hkx := hr x
        rw [hx] at hkx
        split at h
        · rename_i ee
          obtain ⟨rfl, rfl⟩ := ee
          simp only [Option.some.injEq, Prod.mk.injEq] at h
          obtain ⟨rfl, rfl, rfl⟩ := h
          exact Cw hD hM ho ht hki hkx (hp _ (by simp))
        · cases h
      · rename_i j base p hx
        have hkx := hr x
        rw [hx] at hkx
        split at h
        · rename_i hta
          simp only [Option.some.injEq, Prod.mk.injEq] at h
          obtain ⟨rfl, rfl, rfl⟩ := h
          exact By hD hM ho ht hki hkx hta (hp _ (by simp))
        · cases h
      · cases h
    · cases h
  ·
    rename_i tx x i ho
    split at h
    · rename_i m e m' e' xs k' n ht hx hi
      have hkx := hr x
      rw [hx] at hkx
      have hki := hr i
      rw [hi] at hki
      split at h
      · rename_i ee
        obtain ⟨rfl, rfl⟩ := ee
        simp only [Option.some.injEq, Prod.mk.injEq] at h
        obtain ⟨rfl, rfl, rfl⟩ := h
        exact HB hD hM ho ht hki hkx (hp _ (by simp))
      · cases h
    · rename_i s k' n ht hx hi
      have hkx := hr x
      rw [hx] at hkx
      have hki := hr i
      rw [hi] at hki
      simp only [Option.some.injEq, Prod.mk.injEq] at h
      obtain ⟨rfl, rfl, rfl⟩ := h
      exact GT hD hM ho ht hki hkx (hp _ (by simp))
    · cases h
  ·
    rename_i x i ho
    split at h
    · rename_i t y hx
      have hkx := hr x
      rw [hx] at hkx
      split at h
      · rename_i u z hz
        simp only [Option.some.injEq, Prod.mk.injEq] at h
        obtain ⟨rfl, rfl, rfl⟩ := h
        exact J7 hM ho hkx hz
      · cases h
    · cases h
  ·
    rename_i tx x lo hi mx ho
    split at h
    · rename_i l hl
      have hlo := fd hr hl
      split at h
      · rename_i s ht hx
        have hkx := hr x
        rw [hx] at hkx
        split at h
        · rename_i hv hhi
          simp only [Option.some.injEq, Prod.mk.injEq] at h
          obtain ⟨rfl, rfl, rfl⟩ := h
          exact HD hD hM ho ht hkx hlo (fd hr hhi) (hp _ (by simp))
        · cases h
      · rename_i e e' xs ht hx
        have hkx := hr x
        rw [hx] at hkx
        split at h
        · rename_i ee
          subst ee
          split at h
          · rename_i hv hhi
            simp only [Option.some.injEq, Prod.mk.injEq] at h
            obtain ⟨rfl, rfl, rfl⟩ := h
            exact z7 hD hM ho ht hkx hlo (fd hr hhi) (hp _ (by simp))
          · cases h
        · cases h
      · rename_i e e' xs ht hx
        have hkx := hr x
        rw [hx] at hkx
        split at h
        · rename_i ee
          subst ee
          split at h
          · rename_i hv hhi
            simp only [Option.some.injEq, Prod.mk.injEq] at h
            obtain ⟨rfl, rfl, rfl⟩ := h
            exact z7 hD hM ho ht hkx.1 hlo (fd hr hhi) (hp _ (by simp))
          · cases h
        · cases h
      · rename_i m e m' e' xs ht hx
        have hkx := hr x
        rw [hx] at hkx
        split at h
        · rename_i ee
          obtain ⟨rfl, rfl⟩ := ee
          split at h
          · rename_i hv hhi
            simp only [Option.some.injEq, Prod.mk.injEq] at h
            obtain ⟨rfl, rfl, rfl⟩ := h
            exact Hq hD hM ho ht hkx hlo (fd hr hhi) (hp _ (by simp))
          · cases h
        · cases h
      · cases h
    · rename_i l mo hl
      have hlo := fd hr hl
      split at h
      · rename_i e ho' ht
        split at h
        · rename_i xs hv m hxs hhi hmo
          simp only [Option.some.injEq, Prod.mk.injEq] at h
          obtain ⟨rfl, rfl, rfl⟩ := h
          exact F7 hD hM ho ht (cp (hr x) hxs) hlo (js (hr _) hhi) (js (hr _) hmo) (hp (EW l 0) (by simp)) (hp (EW hv m) (by simp)) (hp _ (by simp))
        · cases h
      · cases h
    · cases h
  · rename_i c ho
    exact IN hD hM hgl hr ho h' hp
  ·
    rename_i f first captured ho
    split at h
    · rename_i h0
      split at h
      · rename_i S hS
        split at h
        · rename_i a' h1 hc
          simp only [Option.some.injEq, Prod.mk.injEq] at h
          obtain ⟨rfl, rfl, rfl⟩ := h
          exact I6 hD hM hgl ho h0 hS hr hc (hp _ (by simp))
        · cases h
      · cases h
    · cases h
  · cases h
end
end Go.Proofs.Ytimdnodkabnbfaa
namespace Go.Proofs.Ytimdnodkabnbfaa
open Go Go.RowKit
section
variable {P : Program} {D : aJ} {o : Oper} {a : Act} {G : Gst} {w : World} {tm : Nat → Value}
theorem AU {t t' : Ty} {x : den t'} {y : den t} (h : dS t t' x = some y) : ∃ e : t' = t, y = e ▸ x := ci h
structure Iz (P : Program) (G : Gst) (w : World) (e : Ty) (id n : Nat) (kn sp : List (den e)) : Prop where
 live : ∃ x, G.b id = .live x
 row : tF P G w id e n (kn ++ sp)
 hn : n ≤ kn.length
 full : ∀ n' zs, G.b id = .live (.full e n' zs) → sp = []
 put : ∀ (zs : List (den e)) (G' : Gst) (w' : World), zs.length = kn.length → tF P G' w' id e n (zs ++ sp) → fo P G' w' id (gY G.b e id zs)
theorem AG (hM : MemOk P G w) {e : Ty} {id n : Nat} {kn : List (den e)} (h : g6 G.b e id = some (n, kn)) : ∃ sp, Iz P G w e id n kn sp := by
 unfold g6 at h
 split at h
 ·rename_i e' xs hb
  split at h
  ·rename_i ys hc
   obtain ⟨ee, rfl⟩ := ci hc
   cases ee
   simp only [Option.some.injEq, Prod.mk.injEq] at h
   obtain ⟨rfl, rfl⟩ := h
   have hl := ao hb
   obtain ⟨sp, hr⟩ := xP.1 (hM.box id _ hl)
   refine ⟨sp, ⟨_, hl⟩, hr, Nat.le_refl _, fun n' zs h => (by rw [hl] at h; cases h), fun zs G' w' hlen hr' => ?_⟩
   unfold gY
   rw [hb]
   exact xP.2 ⟨sp, by rw [hlen]; exact hr'⟩
  ·cases h
 ·rename_i e' n' zs0 hb
  split at h
  ·rename_i ys hc
   obtain ⟨ee, rfl⟩ := ci hc
   cases ee
   simp only [Option.some.injEq, Prod.mk.injEq] at h
   obtain ⟨rfl, rfl⟩ := h
   have hl := ao hb
   have hr : tF P G w id e n' zs0 := hM.box id _ hl
   refine ⟨[], ⟨_, hl⟩, by rw [List.append_nil]; exact hr, ?_, fun _ _ _ => rfl, fun zs G' w' hlen hr' => ?_⟩
   ·rcases hr with ⟨_, rfl, _⟩ | ⟨_, _, _, _, _, _, _, _, h, _⟩
    ·exact Nat.zero_le _
    ·exact h
   ·unfold gY
    rw [hb]
    rw [List.append_nil] at hr'
    exact hr'
  ·cases h
 ·cases h
structure CL (P : Program) (G : Gst) (w : World) (e : Ty) (v : Vw e) (val : Value) (n0 : Nat) (sp : List (den e)) : Prop where
 row : Iz P G w e v.id n0 v.kn sp
 val : ∃ a', val = .slice a' v.n ((v.kn ++ sp).length - v.lo) ∧ v.lo + v.n ≤ (v.kn ++ sp).length ∧
  (G.bk v.id = none → (v.kn ++ sp).length = 0) ∧ ∀ g off, G.bk v.id = some g → G.hd v.id = .slice (some ⟨g, off, none⟩) n0 (v.kn ++ sp).length → v.lo < (v.kn ++ sp).length → a' = some ⟨g, off + v.lo * siz e, none⟩
theorem nj {id n : Nat} {e : Ty} {zs : List (den e)} (h : tF P G w id e n zs) : ∃ a, G.hd id = .slice a n zs.length ∧ n ≤ zs.length ∧ zs.length ≤ maxLen ∧ (G.bk id = none → zs = []) := by
 rcases h with ⟨rfl, rfl, hk, a, hh⟩ | ⟨g, arr, eid, off, hk, hh, _, _, hn, hm, _⟩
 ·exact ⟨a, hh, Nat.le_refl _, Nat.zero_le _, fun _ => rfl⟩
 ·exact ⟨_, hh, hn, hm, fun h => by rw [hk] at h; cases h⟩
theorem jC (hM : MemOk P G w) {e : Ty} {k : K} {val : Value} (hk : KV P G w tm k val) {v : Vw e} (h : dI G.b e k = some v) : ∃ n0 sp, CL P G w e v val n0 sp := by
 unfold dI at h
 split at h
 ·rename_i id e0
  split at h
  ·rename_i n zs hr
   have e1 := (Option.some.inj h).symm
   subst e1
   obtain ⟨sp, ho⟩ := AG hM hr
   obtain ⟨a, hh, hn, hm, h0⟩ := nj ho.row
   refine ⟨n, sp, ho, a, ?_, by simpa using hn, fun hb => by rw [h0 hb]; rfl, fun g off hb hh' hlt => ?_⟩
   ·rw [hk.2, hh]; rfl
   ·rw [hh] at hh'
    injection hh' with e1
    rw [e1]
    simp
  ·cases h
 ·rename_i id e' lo n
  split at h
  ·rename_i ee
   subst ee
   split at h
   ·rename_i n0 zs hr
    have e1 := (Option.some.inj h).symm
    subst e1
    obtain ⟨sp, ho⟩ := AG hM hr
    obtain ⟨a, hh, hn, hm, h0⟩ := nj ho.row
    obtain ⟨_, a2, len, cap, h1, h2, a', h3, h4⟩ := hk
    rw [hh] at h1
    injection h1 with e1 e2 e3
    subst e1; subst e2; subst e3
    refine ⟨n0, sp, ho, a', h3, h2, fun hb => by rw [h0 hb]; rfl, fun g off hb hh' hlt => ?_⟩
    rw [hh] at hh'
    injection hh' with e1
    rw [h4 hlt, e1]
    simp [cL]
   ·cases h
  ·cases h
 ·cases h
theorem CL.cells {e : Ty} {v : Vw e} {val : Value} {n0 : Nat} {sp : List (den e)} (h : CL P G w e v val n0 sp) (hok : v.ok) : Src P G.av w e val v.part := by
 obtain ⟨a', hv, hle, hnone, hsome⟩ := h.val
 have hlen : v.part.length = v.n := by unfold Vw.part Vw.ok at *; simp; omega
 by_cases hn : v.n = 0
 ·have hp : v.part = [] := List.eq_nil_of_length_eq_zero (by omega)
  rw [hp]
  exact ⟨a', _, [], by rw [hv, hn]; rfl, by simp, rfl, fun h => absurd rfl h⟩
 ·rcases h.row.row with ⟨h1, _⟩ | ⟨g, arr, eid, off, hk, hh, _, hg, _, _, hs, hr⟩
  ·exfalso
   have := congrArg List.length h1
   unfold Vw.ok at hok
   simp only [List.length_append, List.length_nil] at this
   omega
  ·unfold Vw.ok at hok
   have hlt : v.lo < (v.kn ++ sp).length := by simp only [List.length_append]; omega
   have ha := hsome g off hk hh hlt
   have hA : arr.toList.length = arr.size := Array.length_toList
   have hfull : ((arr.toList.drop off).take ((v.kn ++ sp).length * siz e)).length = (v.kn ++ sp).length * siz e := by rw [List.length_take, List.length_drop, hA]; omega
   have hx := hr.take_drop v.lo (v.lo + v.n) (by simp only [List.length_append]; omega) hfull
   have hpart : ((v.kn ++ sp).take (v.lo + v.n)).drop v.lo = v.part := by
    unfold Vw.part
    rw [List.drop_take, Nat.add_sub_cancel_left, List.drop_append_of_le_length (by omega), List.take_append_of_le_length (by simp; omega)]
   rw [hpart] at hx
   have hm1 : (v.lo + v.n) * siz e ≤ (v.kn ++ sp).length * siz e := Nat.mul_le_mul_right _ hle
   rw [Nat.add_mul] at hm1
   have hL : (((arr.toList.drop off).take ((v.kn ++ sp).length * siz e)).take ((v.lo + v.n) * siz e)).drop (v.lo * siz e) = (arr.toList.drop (off + v.lo * siz e)).take (v.n * siz e) := by
    rw [List.take_take, Nat.min_eq_left (by rw [Nat.add_mul]; exact hm1), List.drop_take, List.drop_drop, Nat.add_mul, Nat.add_sub_cancel_left]
   rw [hL] at hx
   refine ⟨some ⟨g, off + v.lo * siz e, none⟩, _, _, by rw [hv, ha, hlen], ?_, hx, fun _ => ⟨_, rfl, fun j u hj => sD hg j u hj⟩⟩
   rw [List.length_take, List.length_drop, hA, hlen]
   omega
theorem iV {α : Type} {zs ys : List α} {i : Nat} (h : i + ys.length ≤ zs.length) : (over zs i ys).length = zs.length := by
 unfold over
 simp
 omega
theorem HV {α : Type} {zs sp ys : List α} {i : Nat} (h : i + ys.length ≤ zs.length) : over (zs ++ sp) i ys = over zs i ys ++ sp := by
 unfold over
 rw [List.take_append_of_le_length (by omega), List.drop_append_of_le_length (by omega)]
 simp
theorem LP {α : Type} {zs : List α} {i : Nat} : over zs i [] = zs := by
 unfold over
 simp
theorem RepAll.over {α : Type} {R : List Value → α → Prop} {s : Nat} {L M : List Value} {zs ys : List α} {i : Nat} (h : RepAll R s L zs) (hl : L.length = zs.length * s) (hm : M.length = ys.length * s) (hy : RepAll R s M ys) (hi : i + ys.length ≤ zs.length) :
    RepAll R s (ar L (i * s) M) (Go.Proofs.Ytimdnodkabnbfaa.over zs i ys) := by
  have hmul : i * s + ys.length * s ≤ zs.length * s := by rw [← Nat.add_mul]; exact Nat.mul_le_mul_right _ hi
  unfold ar Go.Proofs.Ytimdnodkabnbfaa.over
  have h1 := h.take_drop 0 i (by omega) hl
  have h2 := h.take_drop (i + ys.length) zs.length (Nat.le_refl _) hl
  rw [Nat.zero_mul, List.drop_zero, List.drop_zero] at h1
  rw [List.take_of_length_le (by omega), List.take_of_length_le (Nat.le_refl _), Nat.add_mul] at h2
  refine RepAll.append ?_ (RepAll.append ?_ h1 hy) (by rw [hm]; exact h2)
  · rw [List.length_append, List.length_append, List.length_take, List.length_take, hm]
    rw [Nat.min_eq_left (by omega), Nat.min_eq_left (by omega), Nat.add_mul]
  · rw [List.length_take, List.length_take, Nat.min_eq_left (by omega), Nat.min_eq_left (by omega)]
theorem JM (hM : MemOk P G w) {e : Ty} {id n : Nat} {kn sp ys : List (den e)} (h : Iz P G w e id n kn sp) {i : Nat} (hi : i + ys.length ≤ kn.length) (hne : ys ≠ []) {L : List Value} (hl : L.length = ys.length * siz e) (hy : RepAll (Rep P e .cells G.av w) (siz e) L ys) :
    ∃ g arr eid off G', G.bk id = some g ∧ G.hd id = .slice (some ⟨g, off, none⟩) n (kn ++ sp).length ∧ RowObj e w.heap[g]? arr eid ∧ off + i * siz e + L.length ≤ arr.size ∧
      G'.b = aD G.b [(id, .live (gY G.b e id (over kn i ys)))] ∧ G'.hd = G.hd ∧ G'.bk = G.bk ∧ MemOk P G' (w.setRow g (ar arr.toList (off + i * siz e) L).toArray) ∧ G.Ext w G' (w.setRow g (ar arr.toList (off + i * siz e) L).toArray) := by
  have hpos : 0 < ys.length := List.length_pos_iff.2 hne
  rcases h.row with ⟨h1, _⟩ | ⟨g, arr, eid, off, hk, hh, hnb, hg, hn, hm, hs, hr⟩
  · exfalso
    have := congrArg List.length h1
    simp only [List.length_append, List.length_nil] at this
    omega
  · obtain ⟨x, hlive⟩ := h.live
    have hA : arr.toList.length = arr.size := Array.length_toList
    have hfull : ((arr.toList.drop off).take ((kn ++ sp).length * siz e)).length = (kn ++ sp).length * siz e := by rw [List.length_take, List.length_drop, hA]; omega
    have hi' : i + ys.length ≤ (kn ++ sp).length := by simp only [List.length_append]; omega
    have hmul : i * siz e + ys.length * siz e ≤ (kn ++ sp).length * siz e := by rw [← Nat.add_mul]; exact Nat.mul_le_mul_right _ hi'
    have hov := RepAll.over hr hfull hl hy hi'
    rw [HV hi] at hov
    have hs2 : ((ar arr.toList (off + i * siz e) L).drop off).take ((kn ++ sp).length * siz e) = ar ((arr.toList.drop off).take ((kn ++ sp).length * siz e)) (i * siz e) L := by
      apply List.ext_getElem?
      intro j
      simp only [ar, List.append_assoc, List.getElem?_take, List.getElem?_append, List.length_take, List.getElem?_drop, List.length_drop, hA, hl]
      clear hov hr hfull
      generalize (kn ++ sp).length * siz e = N at *
      generalize i * siz e = M at *
      generalize ys.length * siz e = Q at *
      have m1 : min (off + M) arr.size = off + M := by omega
      have m2 : min M (min N (arr.size - off)) = M := by omega
      rw [m1, m2]
      repeat' split
      all_goals first
        | rfl
        | (exfalso; omega)
        | (congr 1; omega)
        | (rw [List.getElem?_eq_none_iff]; omega)
        | (rw [eq_comm, List.getElem?_eq_none_iff]; omega)
    have hturn := hM.turn hlive hk (x := gY G.b e id (over kn i ys)) (cs := (ar arr.toList (off + i * siz e) L).toArray) (fun G' w' e1 hE e2 e3 => by
      refine h.put _ G' w' (iV hi) (.inr ⟨g, (ar arr.toList (off + i * siz e) L).toArray, eid, off, e3, ?_, ?_, by rw [e1]; exact RowObj.set hg (by rw [List.size_toArray, d8 (by rw [hl, hA]; omega), hA]), ?_, ?_, ?_, ?_⟩)
      · rw [e2, hh]; simp [iV hi]
      · unfold Gst.nb; rw [hE.w0, hE.own]; exact hnb
      · simpa [iV hi] using hn
      · simpa [iV hi] using hm
      · rw [List.size_toArray, d8 (by rw [hl, hA]; omega), hA]
        simpa [iV hi] using hs
      · show RepAll _ _ (((ar arr.toList (off + i * siz e) L).drop off).take ((over kn i ys ++ sp).length * siz e)) _
        have e4 : (over kn i ys ++ sp).length = (kn ++ sp).length := by simp [iV hi]
        rw [e4, hs2]
        exact hov.imp fun _ _ r => r.lat hE.lat)
    exact ⟨g, arr, eid, off, G.turn id _, hk, hh, hg, by rw [hl]; omega, rfl, rfl, rfl, hturn.1, hturn.2⟩
theorem KR {b : Nat → BS} {id : Nat} {x : BS} (h : b id = x) : aD b [(id, x)] = b := by
 funext n
 simp only [aD]
 split
 ·rename_i e; rw [e, h]
 ·rfl
theorem Jj {e : Ty} {id n : Nat} {kn : List (den e)} (h : g6 G.b e id = some (n, kn)) : G.b id = .live (gY G.b e id kn) := by
 unfold g6 at h
 split at h
 ·rename_i e' xs hb
  split at h
  ·rename_i ys hc
   obtain ⟨ee, rfl⟩ := ci hc
   cases ee
   simp only [Option.some.injEq, Prod.mk.injEq] at h
   obtain ⟨rfl, rfl⟩ := h
   rw [ao hb]
   unfold gY; rw [hb]
  ·cases h
 ·rename_i e' n' zs0 hb
  split at h
  ·rename_i ys hc
   obtain ⟨ee, rfl⟩ := ci hc
   cases ee
   simp only [Option.some.injEq, Prod.mk.injEq] at h
   obtain ⟨rfl, rfl⟩ := h
   rw [ao hb]
   unfold gY; rw [hb]
  ·cases h
 ·cases h
theorem zh {b : Nat → BS} {e : Ty} {k : K} {v : Vw e} (h : dI b e k = some v) : ∃ n, g6 b e v.id = some (n, v.kn) := by
 unfold dI at h
 split at h
 ·split at h
  ·rename_i n zs hr
   have e1 := (Option.some.inj h).symm
   subst e1
   exact ⟨n, hr⟩
  ·cases h
 ·split at h
  ·split at h
   ·rename_i n zs hr
    have e1 := (Option.some.inj h).symm
    subst e1
    exact ⟨n, hr⟩
   ·cases h
  ·cases h
 ·cases h
theorem AY (hM : MemOk P G w) {e : Ty} {k : K} {val : Value} (hk : KV P G w tm k val) {ys : List (den e)} {ps : List Prop} (h : ti G.b e k = some (ys, ps)) (hp : ∀ p ∈ ps, p) : Src P G.av w e val ys := by
 unfold ti at h
 split at h
 ·rename_i v hv
  simp only [Option.some.injEq, Prod.mk.injEq] at h
  obtain ⟨rfl, rfl⟩ := h
  obtain ⟨n0, sp, ho⟩ := jC hM hk hv
  exact ho.cells (hp _ (by simp))
 ·split at h
  ·rename_i ys' hg
   simp only [Option.some.injEq, Prod.mk.injEq] at h
   obtain ⟨rfl, rfl⟩ := h
   exact zR (cp hk hg)
  ·cases h
theorem Ap (hM : MemOk P G w) {e : Ty} {v : Vw e} {val : Value} {n0 : Nat} {sp : List (den e)} (h : CL P G w e v val n0 sp) (hb : ∃ n, g6 G.b e v.id = some (n, v.kn)) {ys : List (den e)} {L : List Value} (hl : L.length = ys.length * siz e) (hy : RepAll (Rep P e .cells G.av w) (siz e) L ys) {i : Nat} (hi : v.lo + i + ys.length ≤ v.kn.length) :
    ∃ a' G' w', val = .slice a' v.n ((v.kn ++ sp).length - v.lo) ∧ (ys = [] → G' = G ∧ w' = w) ∧ (ys ≠ [] → ∃ g off, a' = some ⟨g, off, none⟩ ∧ (storeCells ⟨g, off + i * siz e, none⟩ L).run P w = .ok () w') ∧
      G'.b = aD G.b [(v.id, .live (gY G.b e v.id (over v.kn (v.lo + i) ys)))] ∧ G'.hd = G.hd ∧ G'.bk = G.bk ∧ MemOk P G' w' ∧ G.Ext w G' w' := by
  obtain ⟨a', hv, hle, hnone, hsome⟩ := h.val
  by_cases hne : ys = []
  · subst hne
    obtain ⟨n, hb⟩ := hb
    refine ⟨a', G, w, hv, fun _ => ⟨rfl, rfl⟩, fun h => absurd rfl h, ?_, rfl, rfl, hM, Gst.Ext.refl _ _⟩
    rw [LP, KR (Jj hb)]
  · have hpos : 0 < ys.length := List.length_pos_iff.2 hne
    obtain ⟨g, arr, eid, off, G', hk, hh, hg, hsz, h1, h2, h3, h4, h5⟩ := JM hM h.row hi hne hl hy
    have ha := hsome g off hk hh (by simp only [List.length_append]; omega)
    refine ⟨a', G', _, hv, fun h => absurd h hne, fun _ => ⟨g, off + v.lo * siz e, ha, ?_⟩, h1, h2, h3, h4, h5⟩
    obtain ⟨fz, hg, hfz⟩ := hg.far
    have hst := gX P g (off + (v.lo + i) * siz e) eid fz L 0 arr w hg hfz (by simpa using hsz) (oO hy)
    simp only [Nat.add_zero] at hst
    have e1 : off + v.lo * siz e + i * siz e = off + (v.lo + i) * siz e := by rw [Nat.add_mul]; omega
    rw [e1, hst]
    rfl
theorem uV {n : Nat} (h : n ≤ maxLen) : InK .i64 (n : Int) := by
 have e1 : IntKind.i64.min = -9223372036854775808 := rfl
 have e2 : IntKind.i64.max = 9223372036854775807 := rfl
 unfold maxLen at h
 unfold InK
 exact ⟨by omega, by omega⟩
theorem DQ {α : Type} {ys : List α} {n : Nat} : (ys.take n).length = min ys.length n := by rw [List.length_take, Nat.min_comm]
theorem Nc (hD : DOk P D) (hM : MemOk P G w) {c : Call} (ho : o.op = .call c) (hc : c.callee = .builtin .copy) {x y : Operand} (hx : c.args.toList = [x, y]) {t0 : TypeId} (h0 : c.argTypes[0]? = some t0) {e : Ty} (ht : D.ty t0 = some (.slc e)) {v : Vw e} {kx : K}
    (hkx : KV P G w tm kx (a.eval x)) (hv : dI G.b e kx = some v) {ys : List (den e)} (hs : Src P G.av w e (a.eval y) ys) (hok : v.ok) :
    aj P o a G w tm (.val ae (min ys.length v.n : Nat)) [(v.id, .live (gY G.b e v.id (over v.kn v.lo (ys.take v.n))))] := by
  obtain ⟨n0, sp, hvo⟩ := jC hM hkx hv
  obtain ⟨ei, hu, hte, _⟩ := aV (hD.fit ht).shape
  have hsz := (hD.fit hte).sizeOf w
  obtain ⟨b0, c', L1, ey, hl1, hr1, hc1⟩ := hs
  unfold Vw.ok at hok
  have hlen : (ys.take v.n).length = min ys.length v.n := DQ
  have hL : (L1.take ((min ys.length v.n) * siz e)).length = (ys.take v.n).length * siz e := by
    rw [hlen, List.length_take, hl1, Nat.min_eq_left (Nat.mul_le_mul_right _ (Nat.min_le_left _ _))]
  have hR : RepAll (Rep P e .cells G.av w) (siz e) (L1.take ((min ys.length v.n) * siz e)) (ys.take v.n) := by
    have := hr1.take_drop 0 (min ys.length v.n) (Nat.min_le_left _ _) hl1
    rw [Nat.zero_mul, List.drop_zero, List.drop_zero] at this
    have e1 : ys.take (min ys.length v.n) = ys.take v.n := by
      rcases Nat.le_total ys.length v.n with h | h
      · rw [Nat.min_eq_left h, List.take_of_length_le (Nat.le_refl _), List.take_of_length_le h]
      · rw [Nat.min_eq_right h]
    rw [e1] at this
    exact this
  obtain ⟨a', G', w', hval, hnil, hst, h1, h2, h3, h4, h5⟩ := Ap hM hvo (zh hv) hL hR (i := 0) (by rw [hlen]; omega)
  rw [Nat.add_zero] at h1
  obtain ⟨_, _, hm1, hm2, _⟩ := nj hvo.row.row
  have hmin : min ys.length v.n ≤ maxLen := by simp only [List.length_append] at hm2; omega
  have hargs : c.args.map a.eval = #[a.eval x, a.eval y] := by
    apply Array.ext'
    rw [Array.toList_map, hx]
    rfl
  have hkv : KV P G' w' tm (.val ae (min ys.length v.n : Nat)) (.int .i64 (min ys.length v.n : Nat)) := a7.2 ⟨rfl, uV hmin⟩
  refine bl (v := .int .i64 (min ys.length v.n : Nat)) ?_ h1 h5 h4 hkv
  rw [dM ho hc, hargs, hval, ey]
  have hmm : Nat.min ys.length v.n = min ys.length v.n := rfl
  by_cases hn : ys.take v.n = []
  · obtain ⟨rfl, rfl⟩ := hnil hn
    have hz : min ys.length v.n = 0 := by rw [← hlen, hn]; rfl
    cases a' <;> cases b0 <;> simp [builtin, Builtin.copy_, h0, run_underlying hu, hsz, Builtin.lenOf, hmm, hz, Builtin.firstCells, loadCells, loadCellsFrom, storeCells, goInt]
  · obtain ⟨g, off, rfl, hstore⟩ := hst hn
    have hyne : ys ≠ [] := by rintro rfl; simp at hn
    obtain ⟨ad, rfl, hcell⟩ := hc1 hyne
    have hf := run_firstCells_some (P := P) w (siz e) (min ys.length v.n) ad ys.length c' (L1.take ((min ys.length v.n) * siz e)) (by rw [hL, hlen]) (fun j u hj => hcell j u (by
      rw [List.getElem?_take] at hj
      split at hj
      · exact hj
      · cases hj))
    rw [Nat.zero_mul, Nat.add_zero] at hstore
    simp [builtin, Builtin.copy_, h0, run_underlying hu, hsz, Builtin.lenOf, hmm, hf, hstore, goInt]
theorem M0 (hD : DOk P D) (hM : MemOk P G w) {c : Call} (ho : o.op = .call c) (hc : c.callee = .builtin .clear) {x : Operand} (hx : c.args.toList = [x]) {t0 : TypeId} (h0 : c.argTypes[0]? = some t0) {e : Ty} (ht : D.ty t0 = some (.slc e)) {v : Vw e} {kx : K}
    (hkx : KV P G w tm kx (a.eval x)) (hv : dI G.b e kx = some v) (hok : v.ok) :
    aj P o a G w tm .any [(v.id, .live (gY G.b e v.id (over v.kn v.lo (List.replicate v.n (zero e)))))] := by
  obtain ⟨n0, sp, hvo⟩ := jC hM hkx hv
  obtain ⟨ei, hu, hte, _⟩ := aV (hD.fit ht).shape
  have hfe := hD.fit hte
  have hpl : plain e = true := (hD.fit ht).plain
  have hzc : (az e (aO e)).cells = (aO e).toArray := bJ (bq e) (eI hfe) (eC P (fun _ => False) w e hpl).oneCell
  unfold Vw.ok at hok
  have hR : RepAll (Rep P e .cells G.av w) (siz e) (List.replicate v.n (aO e)).flatten (List.replicate v.n (zero e)) := RepAll.replicate (bq e) (eC P _ _ e hpl) _
  obtain ⟨a', G', w', hval, hnil, hst, h1, h2, h3, h4, h5⟩ := Ap hM hvo (zh hv) (L := (List.replicate v.n (aO e)).flatten) (by simp [bq]) hR (i := 0) (by simpa using hok)
  rw [Nat.add_zero] at h1
  have hargs : c.args.map a.eval = #[a.eval x] := by
    apply Array.ext'
    rw [Array.toList_map, hx]
    rfl
  refine bl (v := .tuple #[]) ?_ h1 h5 h4 trivial
  rw [dM ho hc, hargs, hval]
  by_cases hn : v.n = 0
  · obtain ⟨rfl, rfl⟩ := hnil (by rw [hn]; rfl)
    rw [hn]
    cases a' <;> simp [builtin, Builtin.clear_, h0, run_underlying hu]
  · obtain ⟨g, off, rfl, hstore⟩ := hst (by intro h; have := congrArg List.length h; simp at this; omega)
    rw [Nat.zero_mul, Nat.add_zero] at hstore
    have hz := jN (z := aO e) v.n
    obtain ⟨k, hk⟩ : ∃ k, v.n = k + 1 := ⟨v.n - 1, by omega⟩
    rw [hk] at hz hstore ⊢
    simp [builtin, Builtin.clear_, h0, run_underlying hu, hfe.zeroValue w, hzc, hz, hstore]
end
end Go.Proofs.Ytimdnodkabnbfaa
namespace Go.Proofs.Ytimdnodkabnbfaa
open Go Go.RowKit
section
variable {P : Program} {D : aJ} {o : Oper} {a : Act} {G : Gst} {w : World} {tm : Nat → Value}
theorem L9 {e : Ty} {v : Vw e} {val : Value} {n0 : Nat} {sp : List (den e)} (h : CL P G w e v val n0 sp) {lo n : Nat} {a' : Option Addr} (hle : lo + n ≤ (v.kn ++ sp).length)
    (ha : ∀ g off, G.bk v.id = some g → G.hd v.id = .slice (some ⟨g, off, none⟩) n0 (v.kn ++ sp).length → lo < (v.kn ++ sp).length → a' = some ⟨g, off + lo * siz e, none⟩) :
    KV P G w tm (.vw v.id e lo n) (.slice a' n ((v.kn ++ sp).length - lo)) := by
  obtain ⟨x, hx⟩ := h.row.live
  obtain ⟨aa, hh, hn, hm, h0⟩ := nj h.row.row
  refine ⟨⟨x, .inl hx⟩, aa, n0, _, hh, hle, a', rfl, fun hlt => ?_⟩
  rcases h.row.row with ⟨h1, _⟩ | ⟨g, arr, eid, off, hk, hh', _⟩
  · have := congrArg List.length h1
    simp only [List.length_nil] at this
    omega
  · rw [ha g off hk hh' hlt]
    rw [hh] at hh'
    injection hh' with e1
    rw [e1]
    simp [cL]
theorem IR (hD : DOk P D) (hM : MemOk P G w) {tx : TypeId} {x : Operand} {lo hi : Option Operand} (ho : o.op = .slice tx x lo hi none) {e : Ty} (ht : D.ty tx = some (.slc e)) {kx : K} (hkx : KV P G w tm kx (a.eval x)) {v : Vw e} (hv : dI G.b e kx = some v) {l h : Int}
    (hl : (lo = none ∧ l = 0) ∨ ∃ q k, lo = some q ∧ a.eval q = .int k l) (hh : (hi = none ∧ h = (v.n : Int)) ∨ ∃ q k, hi = some q ∧ a.eval q = .int k h) (hok : v.ok) (hc : bP l h ((v.kn.length - v.lo : Nat) : Int)) :
    aj P o a G w tm (.vw v.id e (v.lo + l.toNat) (h.toNat - l.toNat)) [] := by
  obtain ⟨n0, sp, hvo⟩ := jC hM hkx hv
  obtain ⟨a', hval, hle, hnone, hsome⟩ := hvo.val
  obtain ⟨ei, hun, hte, hse⟩ := aV (hD.fit ht).shape
  have hsz := (hD.fit hte).sizeOf w
  obtain ⟨c1, c2, c3⟩ := hc
  unfold Vw.ok at hok
  have hb := iN (P := P) (w := w) (isS := true) (len := v.n) (cap := (v.kn ++ sp).length - v.lo) (lo := lo.map a.eval) (hi := hi.map a.eval) (l := l) (h := h)
    (kA hl) (kA hh) ⟨c1, c2, by simp only [List.length_append]; omega⟩
  refine aA hM (v := .slice (if (v.kn ++ sp).length - v.lo = l.toNat then a' else a'.map (·.add (l.toNat * siz e))) (h.toNat - l.toNat) ((v.kn ++ sp).length - v.lo - l.toNat)) ?_ ?_
  · simp only [execOp, ho, hval, Instr.sliceAt, Instr.slice, Sem.run_bind, run_underlying hun, Result.andThen_ok, Option.map_none, hb, hsz, Sem.run_pure]
  · rw [Nat.sub_sub]
    refine L9 hvo (by simp only [List.length_append]; omega) (fun g off hk hh' hlt => ?_)
    rw [if_neg (by omega), hsome g off hk hh' (by omega)]
    simp only [Option.map_some, cL]
    congr 2
    rw [Nat.add_mul]
    omega
theorem Gx (hD : DOk P D) (hM : MemOk P G w) {tx : TypeId} {x : Operand} {lo hi : Option Operand} {mo : Operand} (ho : o.op = .slice tx x lo hi (some mo)) {e : Ty} (ht : D.ty tx = some (.slc e)) {aa : Option Addr} {len cap : Nat} (hval : a.eval x = .slice aa len cap) {l h m : Int}
    (hl : (lo = none ∧ l = 0) ∨ ∃ q k, lo = some q ∧ a.eval q = .int k l) (hh : ∃ q k, hi = some q ∧ a.eval q = .int k h) (hm : ∃ k, a.eval mo = .int k m) (hc : bP l h m) (hmc : m ≤ (cap : Int)) :
    aj P o a G w tm .any [] := by
  obtain ⟨ei, hun, hte, hse⟩ := aV (hD.fit ht).shape
  have hsz := (hD.fit hte).sizeOf w
  obtain ⟨c1, c2, c3⟩ := hc
  obtain ⟨q, k, rfl, eh⟩ := hh
  obtain ⟨k', em⟩ := hm
  have b1 := gC (P := P) (w := w) (k := k') (n := m) (y := cap) (code := .slice3Acap) ⟨by omega, hmc⟩
  have b2 := gC (P := P) (w := w) (k := k) (n := h) (y := m.toNat) (code := .slice3B) ⟨by omega, by omega⟩
  rcases hl with ⟨rfl, rfl⟩ | ⟨q2, k2, rfl, el⟩
  · refine aA hM (v := .slice (if m.toNat = 0 then aa else aa.map (·.add (0 * siz e))) (h.toNat - 0) (m.toNat - 0)) ?_ trivial
    simp [execOp, ho, hval, Instr.sliceAt, Instr.slice, run_underlying hun, Instr.sliceBounds, eh, em, b1, b2, hsz]
  · have b3 := gC (P := P) (w := w) (k := k2) (n := l) (y := h.toNat) (code := .slice3C) ⟨c1, by omega⟩
    refine aA hM (v := .slice (if m.toNat = l.toNat then aa else aa.map (·.add (l.toNat * siz e))) (h.toNat - l.toNat) (m.toNat - l.toNat)) ?_ trivial
    simp [execOp, ho, hval, Instr.sliceAt, Instr.slice, run_underlying hun, Instr.sliceBounds, eh, em, el, b1, b2, b3, hsz]
theorem JP (hD : DOk P D) (hM : MemOk P G w) {c : Call} (ho : o.op = .call c) (hc : c.callee = .builtin .len) {x : Operand} (hx : c.args.toList = [x]) {at0 : TypeId} (h0 : c.argTypes[0]? = some at0) {e : Ty} (ht : D.ty at0 = some (.slc e)) {aa : Option Addr} {n cap : Nat} (hval : a.eval x = .slice aa n cap) (hn : n ≤ maxLen) :
    aj P o a G w tm (.val ae (n : Nat)) [] := by
  obtain ⟨ei, hun, _⟩ := aV (hD.fit ht).shape
  have hargs : c.args.map a.eval = #[a.eval x] := by
    apply Array.ext'
    rw [Array.toList_map, hx]
    rfl
  refine aA hM (v := .int .i64 n) ?_ (a7.2 ⟨rfl, uV hn⟩)
  rw [dM ho hc, hargs, hval]
  simp [builtin, Builtin.len_, h0, run_underlying hun, goInt]
theorem NM (hD : DOk P D) (hM : MemOk P G w) {c : Call} (ho : o.op = .call c) (hc : c.callee = .builtin .cap) {x : Operand} (hx : c.args.toList = [x]) {at0 : TypeId} (h0 : c.argTypes[0]? = some at0) {e : Ty} (ht : D.ty at0 = some (.slc e)) {j : Nat} {e0 : Ty} (hk : KV P G w tm (.sl j e0) (a.eval x)) {xs : List (den e)} (hb : an G.b j = some (.row e xs)) :
    ∃ sp : List (den e), (xs ++ sp).length ≤ maxLen ∧ aj P o a G w tm (.val ae ((xs ++ sp).length : Nat)) [(j, .live (.full e xs.length (xs ++ sp)))] := by
  obtain ⟨ei, hun, _⟩ := aV (hD.fit ht).shape
  have hl := ao hb
  obtain ⟨sp, hr⟩ := xP.1 (hM.box j _ hl)
  obtain ⟨aa, hh, hn, hm, _⟩ := nj hr
  refine ⟨sp, hm, ?_⟩
  have hargs : c.args.map a.eval = #[a.eval x] := by
    apply Array.ext'
    rw [Array.toList_map, hx]
    rfl
  let G' : Gst := { G with b := aD G.b [(j, .live (.full e xs.length (xs ++ sp)))] }
  have hav : ∀ g, G'.av g ↔ G.av g := fun g => by
    constructor
    · rintro (h | ⟨i, y, h1, h2⟩)
      · exact .inl h
      · by_cases e1 : i = j
        · subst e1; exact .inr ⟨i, _, hl, h2⟩
        · exact .inr ⟨i, y, by simpa [G', aD, e1] using h1, h2⟩
    · rintro (h | ⟨i, y, h1, h2⟩)
      · exact .inl h
      · by_cases e1 : i = j
        · subst e1; exact .inr ⟨i, .full e xs.length (xs ++ sp), by simp [G', aD], h2⟩
        · exact .inr ⟨i, y, by simpa [G', aD, e1] using h1, h2⟩
  have hE : G.Ext w G' w := ⟨⟨Nat.le_refl _, fun b _ hO => ⟨rfl, fun h => hO ((hav b).1 h)⟩⟩, fun i hi => ⟨rfl, rfl, by
    by_cases e1 : i = j
    · simp [G', aD, e1]
    · simpa [G', aD, e1] using hi⟩, ⟨fun _ h => h, fun _ h => .inl h⟩, rfl, rfl, fun _ _ _ => rfl⟩
  have hM' : MemOk P G' w := by
    refine ⟨hM.kept, hM.old, hM.dis, fun i y hi => ?_, fun i i' y z g h1 h2 k1 k2 => ?_, fun i y g hi ki => ?_⟩
    rotate_right
    · by_cases e1 : i = j
      · subst e1; exact hM.boxO i _ g hl ki
      · exact hM.boxO i y g (by simpa [G', aD, e1] using hi) ki
    · by_cases e1 : i = j
      · subst e1
        have : y = .full e xs.length (xs ++ sp) := by simpa [G', aD] using hi.symm
        subst this
        have hk : fo P G w i (.full e xs.length (xs ++ sp)) := hr
        exact hk.keep hE rfl rfl (fun _ _ => rfl)
      · exact (hM.box i y (by simpa [G', aD, e1] using hi)).keep hE rfl rfl (fun _ _ => rfl)
    · have live : ∀ i y, G'.b i = .live y → ∃ y', G.b i = .live y' := fun i y h => by
        by_cases e1 : i = j
        · exact ⟨_, e1 ▸ hl⟩
        · exact ⟨y, by simpa [G', aD, e1] using h⟩
      obtain ⟨y', h1⟩ := live i y h1
      obtain ⟨z', h2⟩ := live i' z h2
      exact hM.sep i i' y' z' g h1 h2 k1 k2
  refine bl (v := .int .i64 (xs ++ sp).length) (G' := G') (w' := w) ?_ rfl hE hM' (a7.2 ⟨rfl, uV hm⟩)
  rw [dM ho hc, hargs, hk.2, hh]
  simp [builtin, Builtin.cap_, h0, run_underlying hun, goInt]
theorem G7 (hD : DOk P D) (hM : MemOk P G w) {c : Call} (ho : o.op = .call c) (hc : c.callee = .builtin .append) {x y : Operand} (hx : c.args.toList = [x, y]) {t : TypeId} (h0 : c.argTypes = #[t, t]) {e : Ty} (ht : D.ty t = some (.slc e)) {kx : K} (hkx : KV P G w tm kx (a.eval x)) {v : Vw e} (hv : dI G.b e kx = some v)
    {ys : List (den e)} (hs : Src P G.av w e (a.eval y) ys) (hok : v.ok) (hle : v.lo + v.n + ys.length ≤ v.kn.length) :
    aj P o a G w tm (.vw v.id e v.lo (v.n + ys.length)) [(v.id, .live (gY G.b e v.id (over v.kn (v.lo + v.n) ys)))] := by
  obtain ⟨n0, sp, hvo⟩ := jC hM hkx hv
  obtain ⟨ei, hu, hte, _⟩ := aV (hD.fit ht).shape
  have hsz := (hD.fit hte).sizeOf w
  obtain ⟨b0, c', L1, ey, hl1, hr1, hc1⟩ := hs
  obtain ⟨a0, hval0, hle0, hnone, hsome⟩ := hvo.val
  obtain ⟨a', G', w', hval, hnil, hst, h1, h2, h3, h4, h5⟩ := Ap hM hvo (zh hv) hl1 hr1 (i := v.n) (by omega)
  rw [hval0] at hval
  injection hval with ea _ _
  subst ea
  have hcap : v.n + ys.length ≤ (v.kn ++ sp).length - v.lo := by simp only [List.length_append]; omega
  have hkv : KV P G w tm (.vw v.id e v.lo (v.n + ys.length)) (.slice a0 (v.n + ys.length) ((v.kn ++ sp).length - v.lo)) := L9 hvo (by simp only [List.length_append]; omega) hsome
  refine bl (v := .slice a0 (v.n + ys.length) ((v.kn ++ sp).length - v.lo)) ?_ h1 h5 h4 (hkv.ext h5)
  refine om ho hc hx h0 ?_
  rw [hval0, ey]
  by_cases hn : ys = []
  · obtain ⟨rfl, rfl⟩ := hnil hn
    subst hn
    exact k9 hD ht (by simpa using hcap)
  · obtain ⟨g, off, rfl, hstore⟩ := hst hn
    obtain ⟨ad, rfl, hcell⟩ := hc1 hn
    have hf := run_firstCells_some (P := P) w (siz e) ys.length ad ys.length c' L1 hl1 hcell
    have hadd : (⟨g, off, none⟩ : Addr).add (v.n * siz e) = ⟨g, off + v.n * siz e, none⟩ := by rw [cL]
    generalize (v.kn ++ sp).length - v.lo = cc at *
    simp [Builtin.append_, run_underlying hu, hsz, Builtin.lenOf, hcap, hf, hadd, hstore]
theorem CD (hD : DOk P D) (hM : MemOk P G w) {c : Call} (ho : o.op = .call c) (hc : c.callee = .builtin .append) {x y : Operand} (hx : c.args.toList = [x, y]) {t t' : TypeId} (h0 : c.argTypes = #[t, t']) {e : Ty} (ht : D.ty t = some (.slc e)) {ki : IntKind} (ht' : D.ty t' = some (.int ki)) {kx : K} (hkx : KV P G w tm kx (a.eval x)) {v : Vw e} (hv : dI G.b e kx = some v)
    {n : Int} {kq : IntKind} (hy : a.eval y = .int kq n) (hok : v.ok) (hlo : v.lo = 0) (hfull : ∃ n' zs, an G.b v.id = some (.full e n' zs)) (hpos : 0 < n) (hg : v.kn.length < v.n + n.toNat) (hb : v.n + n.toNat ≤ bY) {id : Nat} (hf : aR G.b id = true) :
    aj P o a G w tm (.sl id e) [(id, .live (.row e (v.part ++ List.replicate n.toNat (zero e))))] := by
  obtain ⟨n0, sp, hvo⟩ := jC hM hkx hv
  obtain ⟨ei, hu, hte, hse⟩ := aV (hD.fit ht).shape
  have hfe := hD.fit hte
  obtain ⟨i, z, hi, hs, hby, hz, ez⟩ := hfe.info
  have hpl : plain e = true := (hD.fit ht).plain
  have hzc : z.cells = (aO e).toArray := by rw [ez]; exact bJ (bq e) (eI hfe) (eC P (fun _ => False) w e hpl).oneCell
  obtain ⟨b0, c0, L0, ev, hl0, hr0, hc0⟩ := hvo.cells hok
  have hplen : v.part.length = v.n := by unfold Vw.part Vw.ok at *; simp; omega
  have hsp : sp = [] := by
    obtain ⟨n', zs, hl⟩ := hfull
    exact hvo.row.full n' zs (ao hl)
  obtain ⟨a1, hval, hle, hnone, hsome⟩ := hvo.val
  rw [hsp, List.append_nil, hlo, Nat.sub_zero] at hval
  rw [ev] at hval
  injection hval with e1 e2 e3
  subst e1; subst e3
  rw [hplen] at ev hl0
  obtain ⟨k, rfl⟩ : ∃ k : Nat, n = (k : Int) := ⟨n.toNat, by omega⟩
  simp only [Int.toNat_natCast] at hg hb ⊢
  have hbytes : (v.n + k) * i.bytes ≤ 140737488355328 := Nat.le_trans (Nat.mul_le_mul hb hby) (by decide)
  have hkb : k * i.bytes ≤ 281474976710656 := Nat.le_trans (Nat.mul_le_mul_right _ (Nat.le_add_left k v.n)) (by omega)
  have h63 : ((v.n + k : Nat) : Int) ≤ 9223372036854775807 := by unfold bY at hb; omega
  have hml : v.n + k ≤ maxLen := by unfold maxLen; unfold bY at hb; omega
  have hold : (Builtin.firstCells i.size v.n (.slice b0 v.n v.kn.length)).run P w.drew = .ok L0.toArray w.drew := by
    rw [hs]
    by_cases hp : v.part = []
    · have hn0 : v.n = 0 := by rw [← hplen, hp]; rfl
      have hL : L0 = [] := List.eq_nil_of_length_eq_zero (by rw [hl0, hn0, Nat.zero_mul])
      rw [hn0, hL]
      cases b0 <;> simp [Builtin.firstCells, loadCells, loadCellsFrom]
    · obtain ⟨ad, rfl, hcell⟩ := hc0 hp
      exact run_firstCells_some (P := P) w.drew (siz e) v.n ad v.n v.kn.length L0 hl0 (fun j u hj => hcell j u hj)
  have hr := Lib.run_append_grow_zeros (P := P) w t t' o.type ei i z kq ki hu (fk (hD.fit ht').shape) hi hz b0 v.n v.kn.length L0 hold k (by omega) (by rw [hs]; omega) hg h63 hkb (growslice_fits hg hbytes)
  have hzk : Builtin.zeroCells z.cells k = ((List.replicate k (aO e)).flatten).toArray := by
    apply Array.ext'
    rw [hzc, jN]
  rw [hzk, hzc] at hr
  have hnew := uX (eid := ei) (e := e) (n := v.n) (m := k) (cap := grownCap w (v.n + k) v.kn.length ei) (L0 := L0) (L1 := (List.replicate k (aO e)).flatten) (Z := Builtin.zeroCells (aO e).toArray (grownCap w (v.n + k) v.kn.length ei - (v.n + k))) (xs := v.part) (ys := List.replicate k (zero e)) (id := id) hM (by rw [hl0, hplen]) (by simp [bq]) hplen.symm (by simp) hr0 (RepAll.replicate (bq e) (eC P _ _ e hpl) _) hpl (grownCap_ge w (v.n + k) v.kn.length ei) (grownCap_le_maxLen w (v.n + k) v.kn.length ei hml) (jN _)
  have hadd := hM.add (P := P) (w' := w.drew.alloc (.cells (L0.toArray ++ ((List.replicate k (aO e)).flatten).toArray ++ Builtin.zeroCells (aO e).toArray (grownCap w (v.n + k) v.kn.length ei - (v.n + k))) ei)) ((Kept.drew w).trans (Kept.alloc w.drew _)) (id := id) (g := w.heap.size) (h := .slice (some ⟨w.heap.size, 0, none⟩) (v.n + k) (grownCap w (v.n + k) v.kn.length ei)) (x := .row e (v.part ++ List.replicate k (zero e))) (bL hf) (Nat.le_refl _) (fun G' hE hh hb _ => hnew G' hE hh hb)
  refine bl (v := .slice (some ⟨w.heap.size, 0, none⟩) (v.n + k) (grownCap w (v.n + k) v.kn.length ei)) ?_ rfl hadd.2 hadd.1 ⟨⟨.row e _, .inl (by simp [Gst.add]; rfl)⟩, by simp [Gst.add]⟩
  have hrun := dM (P := P) (w := w) (a := a) ho hc
  have hargs : c.args.map a.eval = #[a.eval x, a.eval y] := by
    apply Array.ext'
    rw [Array.toList_map, hx]
    rfl
  rw [hrun, hargs, h0, ev, hy]
  simp only [builtin, Sem.run_bind, hr, Result.andThen_ok, Sem.run_pure]
theorem Hl (hD : DOk P D) (hM : MemOk P G w) {tx : TypeId} {x : Operand} {lo hi : Option Operand} (ho : o.op = .slice tx x lo hi none) {m : Nat} {e : Ty} (ht : D.ty tx = some (.arr m e)) {j : Nat} {base : Ty} {p : List Sel} (hx : KV P G w tm (.ptr j base p) (a.eval x)) (hta : c7 base p = some (.arr m e)) {l h : Int}
    (hl : (lo = none ∧ l = 0) ∨ ∃ q k, lo = some q ∧ a.eval q = .int k l) (hh : (hi = none ∧ h = (m : Int)) ∨ ∃ q k, hi = some q ∧ a.eval q = .int k h) (hc : bP l h (m : Int)) : aj P o a G w tm (.asl j base p m e l.toNat (h.toNat - l.toNat)) [] := by
  obtain ⟨hu, hp, g, hg, ex⟩ := hx
  obtain ⟨ei, hun, hte, hse, hm⟩ := qL (hD.fit ht).shape
  have hsz := (hD.fit hte).sizeOf w
  obtain ⟨hc0, hc1, hc2⟩ := hc
  have hb := iN (P := P) (w := w) (isS := false) (len := m) (cap := m) (lo := lo.map a.eval) (hi := hi.map a.eval) (l := l) (h := h)
    (kA hl) (kA hh) ⟨hc0, hc1, by omega⟩
  refine aA hM (v := .slice (some (if m = l.toNat then ⟨g, iH (G.hd j) + aH base p, none⟩ else (⟨g, iH (G.hd j) + aH base p, none⟩ : Addr).add (l.toNat * siz e))) (h.toNat - l.toNat) (m - l.toNat)) ?_ ?_
  · simp only [execOp, ho, ex, Instr.sliceAt, Instr.sureAddr, Sem.run_bind, run_underlying hun, Result.andThen_ok, Option.map_none, hb, hsz, Sem.run_pure]
  · refine ⟨hu, ⟨hp, hta, by omega, by unfold maxLen; omega⟩, g, _, hg, rfl, fun hlt => ?_⟩
    rw [if_neg (by omega), cL]
def IK (P : Program) (O : Nat → Prop) (w : World) (e : Ty) (val : Value) (ys : List (den e)) : Prop :=
 ∃ L1 : List Value, L1.length = ys.length * siz e ∧ RepAll (Rep P e .cells O w) (siz e) L1 ys ∧ (Builtin.lenOf val).run P w = .ok ys.length w ∧
  ∀ k, k ≤ ys.length → (Builtin.firstCells (siz e) k val).run P w = .ok (L1.take (k * siz e)).toArray w
theorem MU {e : Ty} {val : Value} {ys : List (den e)} (h : Src P G.av w e val ys) : IK P G.av w e val ys := by
 obtain ⟨b0, c', L1, ey, hl1, hr1, hc1⟩ := h
 refine ⟨L1, hl1, hr1, by rw [ey]; simp [Builtin.lenOf], fun k hk => ?_⟩
 have hlk : (L1.take (k * siz e)).length = k * siz e := by rw [List.length_take, hl1]; exact Nat.min_eq_left (Nat.mul_le_mul_right _ hk)
 rw [ey]
 by_cases hy : ys = []
 ·have hk0 : k = 0 := by rw [hy] at hk; exact Nat.le_zero.1 hk
  subst hk0
  cases b0 <;> simp [Builtin.firstCells, loadCells, loadCellsFrom]
 ·obtain ⟨ad, rfl, hcell⟩ := hc1 hy
  exact run_firstCells_some (P := P) w (siz e) k ad ys.length c' (L1.take (k * siz e)) hlk (fun j u hj => hcell j u (by
   rw [List.getElem?_take] at hj
   split at hj
   ·exact hj
   ·cases hj))
theorem yi {O : Nat → Prop} : ∀ bs : List UInt8, RepAll (Rep P (.int .u8) .cells O w) 1 (bs.map fun b => Value.int .u8 (b.toNat : Int)) (bs.map fun b => (b.toNat : Int))
 | [] => rfl
 | b :: bs => by
  refine ⟨⟨rfl, ?_⟩, yi bs⟩
  have := b.toNat_lt
  have e1 : IntKind.u8.min = 0 := rfl
  have e2 : IntKind.u8.max = 255 := rfl
  show IntKind.u8.min ≤ ((b.toNat : Nat) : Int) ∧ ((b.toNat : Nat) : Int) ≤ IntKind.u8.max
  exact ⟨by omega, by omega⟩
theorem K9 {s : ByteArray} : IK P G.av w (.int .u8) (.string s) (dD s) := by
 have hl : (dD s).length = s.size := by
  unfold dD
  rw [List.length_map, Array.length_toList]
  rfl
 refine ⟨s.data.toList.map fun b => .int .u8 (b.toNat : Int), by simp [dD, siz], yi _, by rw [hl]; simp [Builtin.lenOf], fun k hk => ?_⟩
 have e : ((s.extract 0 k).data.map fun b => Value.int .u8 (b.toNat : Int)) = ((s.data.toList.map fun b => Value.int .u8 (b.toNat : Int)).take (k * siz (.int .u8))).toArray := by
  apply Array.ext'
  simp [siz, List.map_take, ByteArray.data_extract]
 simp only [Builtin.firstCells, Sem.run_pure]
 rw [← e]
theorem Kp (hM : MemOk P G w) {e : Ty} {k : K} {val : Value} (hk : KV P G w tm k val) {ys : List (den e)} {ps : List Prop} (h : Fy G.b e k = some (ys, ps)) (hp : ∀ p ∈ ps, p) : IK P G.av w e val ys := by
 unfold Fy at h
 split at h
 ·rename_i q hq
  have h := Option.some.inj h
  subst h
  exact MU (AY hM hk hq hp)
 ·split at h
  ·rename_i s _ _
   simp only [Option.some.injEq, Prod.mk.injEq] at h
   obtain ⟨rfl, rfl⟩ := h
   have : val = .string s := by
    obtain ⟨cs, ev, hr⟩ := hk
    obtain ⟨rfl, _⟩ := hr
    exact ev
   rw [this]
   exact K9
  ·cases h
theorem Jg (hD : DOk P D) (hM : MemOk P G w) {c : Call} (ho : o.op = .call c) (hc : c.callee = .builtin .copy) {x y : Operand} (hx : c.args.toList = [x, y]) {t0 : TypeId} (h0 : c.argTypes[0]? = some t0) {e : Ty} (ht : D.ty t0 = some (.slc e)) {j : Nat} {base : Ty} {p : List Sel} {m lo n : Nat}
    (hkx : KV P G w tm (.asl j base p m e lo n) (a.eval x)) {z : den base} (hb : an G.b j = some (.cell base z)) {old : List (den e)} (hold : bo (.arr m e) (nav (.val base z) p) = some old) {ys : List (den e)} (hs : IK P G.av w e (a.eval y) ys)
    {bx : Bx} (hup : Bx.upd (.cell base z) p (.val (.arr m e) (Go.Proofs.Ytimdnodkabnbfaa.over (α := den e) old lo (ys.take n))) = some bx) :
    aj P o a G w tm (.val ae (min ys.length n : Nat)) [(j, .live bx)] := by
  obtain ⟨_, ⟨hp, hta, hlo, hmax⟩, g, a', hg, hval, haddr⟩ := hkx
  have hbl := ao hb
  obtain ⟨ei, hu, hte, _⟩ := aV (hD.fit ht).shape
  have hsz := (hD.fit hte).sizeOf w
  obtain ⟨L1, hl1, hr1, hlen1, hfirst⟩ := hs
  obtain ⟨g', arr, eid, b1, b2, b3, b4, b5⟩ := hM.box j _ hbl
  rw [hg] at b1
  cases b1
  obtain ⟨hle, hnav⟩ := rv hta hp b4 hold
  obtain ⟨hol, hnr⟩ := hnav
  have hA : arr.toList.length = arr.size := Array.length_toList
  have hl4 := b4.length
  have hCl : ((arr.toList.drop (aH base p)).take (siz (.arr m e))).length = siz (.arr m e) := by rw [List.length_take, List.length_drop]; omega
  have hk : (ys.take n).length = min ys.length n := DQ
  have hL : (L1.take (min ys.length n * siz e)).length = (ys.take n).length * siz e := by
    rw [hk, List.length_take, hl1, Nat.min_eq_left (Nat.mul_le_mul_right _ (Nat.min_le_left _ _))]
  have hR : RepAll (Rep P e .cells G.av w) (siz e) (L1.take (min ys.length n * siz e)) (ys.take n) := by
    have := hr1.take_drop 0 (min ys.length n) (Nat.min_le_left _ _) hl1
    rw [Nat.zero_mul, List.drop_zero, List.drop_zero] at this
    have e1 : ys.take (min ys.length n) = ys.take n := by
      rcases Nat.le_total ys.length n with h | h
      · rw [Nat.min_eq_left h, List.take_of_length_le (Nat.le_refl _), List.take_of_length_le h]
      · rw [Nat.min_eq_right h]
    rw [e1] at this
    exact this
  have hml : (ys.take n).length ≤ n := by rw [hk]; exact Nat.min_le_right _ _
  have hol : old.length = m := hol
  have hsa : siz (.arr m e) = m * siz e := rfl
  have hmul : lo * siz e + (ys.take n).length * siz e ≤ m * siz e := by rw [← Nat.add_mul]; exact Nat.mul_le_mul_right _ (by omega)
  have hov := RepAll.over (i := lo) hnr (by rw [hCl, hsa, hol]) hL hR (by rw [hol]; omega)
  have hrep : Rep P (.arr m e) .cells G.av w (ar ((arr.toList.drop (aH base p)).take (siz (.arr m e))) (lo * siz e) (L1.take (min ys.length n * siz e))) (Go.Proofs.Ytimdnodkabnbfaa.over (α := den e) old lo (ys.take n)) :=
    ⟨by rw [iV (by rw [hol]; omega)]; exact hol, hov⟩
  have hupd : ∃ z', qe (.val (.arr m e) (Go.Proofs.Ytimdnodkabnbfaa.over (α := den e) old lo (ys.take n))) p base z = some z' ∧ bx = .cell base z' := by
    have hup : (match qe (.val (.arr m e) (Go.Proofs.Ytimdnodkabnbfaa.over (α := den e) old lo (ys.take n))) p base z with | some z => some (Bx.cell base z) | none => none) = some bx := hup
    split at hup
    · rename_i z' hz
      exact ⟨z', hz, (Option.some.inj hup).symm⟩
    · cases hup
  obtain ⟨z', hz, rfl⟩ := hupd
  obtain ⟨_, hrz⟩ := rp (k := .val (.arr m e) (Go.Proofs.Ytimdnodkabnbfaa.over (α := den e) old lo (ys.take n))) (u := .arr m e) (fun y' e' => by
    obtain ⟨_, rfl⟩ := iK e'
    exact hrep) hta hp b4 hz
  rw [j5 (by rw [hL, hCl, hsa]; exact hmul) (by rw [hCl, hl4]; exact hle) (by rw [hCl])] at hrz
  generalize hLL : L1.take (min ys.length n * siz e) = L at *
  have hfit : aH base p + lo * siz e + L.length ≤ arr.size := by rw [← hA, hl4, hL]; omega
  have hmn : min ys.length n ≤ m := Nat.le_trans (Nat.min_le_right _ _) (by omega)
  have hargs : c.args.map a.eval = #[a.eval x, a.eval y] := by
    apply Array.ext'
    rw [Array.toList_map, hx]
    rfl
  have hmm : Nat.min ys.length n = min ys.length n := rfl
  have hf := hfirst (min ys.length n) (Nat.min_le_left _ _)
  rw [hLL] at hf
  by_cases hn : min ys.length n = 0
  · have hL0 : L = [] := List.eq_nil_of_length_eq_zero (by rw [hL, hk, hn, Nat.zero_mul])
    have ht := hM.turn hbl hg (x := .cell base z') (cs := arr) (fun G' w' e1 hE e2 e3 => by
      refine ⟨g, arr, eid, e3, by unfold Gst.nb; rw [hE.w0, hE.own]; exact b2, by rw [e1, setRow_self w g arr eid (0, 0) b3]; exact b3, ?_, by rw [e2]; exact b5⟩
      rw [hL0] at hrz
      have es : ar arr.toList (aH base p + lo * siz e) [] = arr.toList := by simp [ar]
      rw [es] at hrz
      exact hrz.lat hE.lat)
    rw [setRow_self w g arr eid (0, 0) b3] at ht
    have hkv : KV P (G.turn j (.cell base z')) w tm (.val ae (min ys.length n : Nat)) (.int .i64 (min ys.length n : Nat)) := a7.2 ⟨rfl, uV (by omega)⟩
    refine bl (v := .int .i64 (min ys.length n : Nat)) ?_ rfl ht.2 ht.1 hkv
    rw [dM ho hc, hargs, hval]
    rw [hn] at hf ⊢
    cases a' <;> simp [builtin, Builtin.copy_, h0, run_underlying hu, hsz, hlen1, hmm, hn, hf, hL0, storeCells, goInt]
  · have hlt : lo < m := by omega
    have ea := haddr hlt
    subst ea
    have ht := hM.turn hbl hg (x := .cell base z') (cs := (ar arr.toList (aH base p + lo * siz e) L).toArray) (fun G' w' e1 hE e2 e3 => by
      refine ⟨g, _, eid, e3, by unfold Gst.nb; rw [hE.w0, hE.own]; exact b2, by rw [e1]; exact setRow_heap w g arr _ eid (0, 0) b3, ?_, by rw [e2]; exact b5⟩
      exact hrz.lat hE.lat)
    have hkv : KV P (G.turn j (.cell base z')) (w.setRow g (ar arr.toList (aH base p + lo * siz e) L).toArray) tm (.val ae (min ys.length n : Nat)) (.int .i64 (min ys.length n : Nat)) := a7.2 ⟨rfl, uV (by omega)⟩
    have hst := gX P g (aH base p + lo * siz e) eid (0, 0) L 0 arr w b3 (.inl rfl) (by simpa using hfit) (oO hR)
    simp only [Nat.add_zero] at hst
    refine bl (v := .int .i64 (min ys.length n : Nat)) ?_ rfl ht.2 ht.1 hkv
    rw [dM ho hc, hargs, hval, b5, Nat.zero_add]
    simp [builtin, Builtin.copy_, h0, run_underlying hu, hsz, hlen1, hmm, hf, hst, goInt, ar]
end
end Go.Proofs.Ytimdnodkabnbfaa
namespace Go.Proofs.Ytimdnodkabnbfaa
open Go Go.RowKit
section
variable {P : Program} {D : aJ} {o : Oper} {a : Act} {G : Gst} {w : World} {tm : Nat → Value}
theorem ze (hM : MemOk P G w) {k : K} {v : Value} (hk : KV P G w tm k v) {q : Bool ⊕ Prop} (h : CE G.b k = some q) : ∃ aa n c, v = .slice aa n c ∧ (∀ b, q = .inl b → aa.isNone = b) ∧ (∀ p, q = .inr p → aa.isNone = true → p) := by
 have key : ∀ {e : Ty} {xs : List (den e)}, aB P (.slc e) G.av w v xs → ∃ aa n c, v = .slice aa n c ∧ (aa.isNone = true → xs = []) := by
  rintro e xs ⟨cs, ev, aa, c, L, rfl, h2, h3, h4, h5, h6, h7⟩
  refine ⟨aa, xs.length, c, ev, fun hn => ?_⟩
  cases aa with
  | none => have := h7 rfl; exact List.eq_nil_of_length_eq_zero (by omega)
  | some ad => cases hn
 unfold CE at h
 split at h
 ·have e := (Option.some.inj h).symm
  subst e
  exact ⟨none, 0, 0, hk, (fun b h => by cases h; rfl), (fun p h => by cases h)⟩
 ·have e := (Option.some.inj h).symm
  subst e
  obtain ⟨aa, n, c, e1, e2⟩ := key hk
  exact ⟨aa, n, c, e1, (fun b h => by cases h), (fun p h => by cases h; exact e2)⟩
 ·have e := (Option.some.inj h).symm
  subst e
  obtain ⟨aa, n, c, e1, e2⟩ := key hk.1
  exact ⟨aa, n, c, e1, (fun b h => by cases h), (fun p h => by cases h; exact e2)⟩
 ·rename_i id e0
  split at h
  ·rename_i e' xs hb
   have e := (Option.some.inj h).symm
   subst e
   rcases hM.box id _ (ao hb) with ⟨rfl, _, aa, hh⟩ | ⟨g, arr, eid, off, sp, h1, hh, _⟩
   ·exact ⟨aa, 0, 0, by rw [hk.2, hh], (fun b h => by cases h), (fun p h _ => by cases h; rfl)⟩
   ·exact ⟨_, _, _, by rw [hk.2, hh], (fun b h => by cases h), (fun p h hn => by cases hn)⟩
  ·cases h
 ·cases h
theorem ET (hD : DOk P D) (hM : MemOk P G w) {tx ty : TypeId} {x y : Operand} {neq : Bool} (ho : o.op = .binOp (if neq then .neq else .eql) tx x y ty) {e : Ty} (ht : D.ty tx = some (.slc e)) {aa : Option Addr} {n c : Nat} (hx : a.eval x = .slice aa n c) (hy : a.eval y = .slice none 0 0) :
    aj P o a G w tm (.val .bool (if neq then !aa.isNone else aa.isNone)) [] := by
  obtain ⟨ei, hu, _⟩ := aV (hD.fit ht).shape
  refine aA hM (v := .bool (if neq then !aa.isNone else aa.isNone)) ?_ (bv.2 rfl)
  have hg := fj (P := P) (w := w) (if neq then .neq else .eql) tx x y (vx := .slice aa n c) (vy := .slice none 0 0) (fun _ _ e => by cases e) (by simp)
  cases neq
  · simp only [Bool.false_eq_true, if_false] at *
    simp only [execOp, ho, hx, hy, Sem.run_bind, hg, Result.andThen_ok, Lib.run_eql_slice_nil w tx ei aa n c 0 0 hu, Sem.run_pure]
  · simp only [if_true] at *
    simp only [execOp, ho, hx, hy, Sem.run_bind, hg, Result.andThen_ok, run_neq_slice_nil_any w tx ei aa n c 0 0 hu, Sem.run_pure]
theorem zm : ∀ {c : K} {i : Nat} {vs : List Value}, KV P G w tm c (.tuple vs.toArray) → (∀ v, vs[i]? = some v → KV P G w tm (sb c i) v) ∧ (vs[i]? = none → sb c i = .any) := by
 intro c
 induction c with
 | kcons p q _ ihq =>
  intro i vs h
  obtain ⟨x, xs, e, h1, h2⟩ := h
  have e : vs = x :: xs := by injection e with e; simpa using congrArg Array.toList e
  subst e
  cases i with
  | zero => exact ⟨fun v hv => by cases hv; exact h1, fun h => by cases h⟩
  | succ i => exact ihq h2
 | _ => intro i vs h; exact ⟨fun v hv => (by cases i <;> exact trivial), fun _ => (by cases i <;> rfl)⟩
theorem yR : ∀ {c : K} {i : Nat} {vs : List Value}, KV P G w tm c (.tuple vs.toArray) → vs[i]? = none → FZ c i = false := by
 intro c
 induction c with
 | kcons p q _ ihq =>
  intro i vs h hv
  obtain ⟨x, xs, e, h1, h2⟩ := h
  have e : vs = x :: xs := by injection e with e; simpa using congrArg Array.toList e
  subst e
  cases i with
  | zero => cases hv
  | succ i => exact ihq h2 hv
 | _ => intro i vs h hv; cases i <;> rfl
theorem Ca (hM : MemOk P G w) {x : Operand} {i : Nat} (ho : o.op = .extract x i) {p q : K} (hx : KV P G w tm (.kcons p q) (a.eval x)) (hi : FZ (.kcons p q) i = true) : aj P o a G w tm (sb (.kcons p q) i) [] := by
 obtain ⟨y, ys, e, h1, h2⟩ := hx
 have hx : KV P G w tm (.kcons p q) (.tuple (y :: ys).toArray) := ⟨y, ys, rfl, h1, h2⟩
 have hg := zm (i := i) hx
 cases hv : (y :: ys)[i]? with
 | none => exact absurd hi (by rw [yR hx hv]; simp)
 | some v =>
  have hv' : (y :: ys).toArray[i]? = some v := by simpa using hv
  refine aA hM (v := v) ?_ (hg.1 v hv)
  simp only [execOp, ho, e, Instr.extract, hv', Sem.run_bind, Sem.run_pure, Result.andThen_ok]
theorem Fu {r : Operand → K} (hr : ∀ x, KV P G w tm (r x) (a.eval x)) : ∀ l : List Operand, KV P G w tm (ph (l.map r)) (.tuple (l.map a.eval).toArray)
 | [] => rfl
 | x :: l => ⟨a.eval x, l.map a.eval, rfl, hr x, Fu hr l⟩
theorem ND (hM : MemOk P G w) {f : FuncId} {first captured : Array Operand} (ho : o.op = .makeFunc (.func f) first captured) (h0 : first.size = 0) {r : Operand → K} (hr : ∀ x, KV P G w tm (r x) (a.eval x)) :
    aj P o a G w tm (.clo f (ph (captured.toList.map r))) [] := by
  have e0 : first = #[] := Array.size_eq_zero_iff.1 h0
  have e : captured.map a.eval = (captured.toList.map a.eval).toArray := by apply Array.ext'; simp
  refine aA hM (v := .func (.func f) #[] (captured.toList.map a.eval).toArray) ?_ ⟨_, Fu hr _, rfl⟩
  simp only [execOp, ho, Instr.makeFunc, Sem.run_bind, Sem.run_pure, Result.andThen_ok, e0, e, List.map_toArray, List.map_nil]
theorem Kj (hM : MemOk P G w) {t : Ty} {k : K} {v : Value} {x : den t} (hk : KV P G w tm k v) (h : asB G.b t k = some x) : aB P t G.O w v x := by
 unfold asB at h
 split at h
 ·rename_i e id e0
  split at h
  ·rename_i e' xs hb
   obtain ⟨ee, rfl⟩ := ci h
   cases ee
   rw [hk.2]
   exact aB.lat (pd (G.drop id) w) (lL hM (ao hb))
  ·cases h
 ·exact aB.lat (pd G w) (cp hk h)
theorem Mn (hM : MemOk P G w) {r : Operand → K} (hr : ∀ x, KV P G w tm (r x) (a.eval x)) : ∀ (t : Ty) (l : List Operand) (x : den t), ob G.b t (l.map r) = some x → Rep P t .chain G.O w (l.map a.eval) x := by
 intro t
 induction t with
 | unit =>
  intro l x h
  cases l with
  | nil => rfl
  | cons q l => cases h
 | pair t b _ ihb =>
  intro l x h
  cases l with
  | nil => cases h
  | cons q l =>
   have h' : (match asB G.b t (r q), ob G.b b (l.map r) with | some x, some y => some (x, y) | _, _ => none) = some x := h
   split at h'
   ·rename_i x1 x2 h1 h2
    have e := (Option.some.inj h').symm
    subst e
    obtain ⟨cs, ev, hc⟩ := Kj hM (hr q) h1
    exact ⟨l.map a.eval, cs, by rw [List.map_cons, ev], hc, ihb l x2 h2⟩
   ·cases h'
 | _ => intro l x h; cases l <;> cases h
theorem GK {O O' : Nat → Prop} {w w' : World} : ∀ {t : Ty}, eP t = true → ∀ {m : LM} {cs : List Value} {x : den t}, Rep P t m O w cs x → Rep P t m O' w' cs x := by
 intro t
 induction t with
 | int k => intro _ m cs x h; cases m <;> exact h
 | bool => intro _ m cs x h; cases m <;> exact h
 | str => intro _ m cs x h; cases m <;> exact h
 | unit => intro _ m cs x h; cases m <;> exact h
 | pair a b iha ihb =>
  intro hf m cs x h
  simp only [eP, Bool.and_eq_true] at hf
  cases m with
  | cells => exact ⟨iha hf.1 h.1, ihb hf.2 h.2⟩
  | chain => obtain ⟨rest, cs', e, h1, h2⟩ := h; exact ⟨rest, cs', e, iha hf.1 h1, ihb hf.2 h2⟩
  | result => obtain ⟨rest, cs', e, h1, h2⟩ := h; exact ⟨rest, cs', e, iha hf.1 h1, ihb hf.2 h2⟩
 | st b ih => intro hf m cs x h; cases m <;> first | exact ih hf h | exact h
 | arr n e ih => intro hf m cs x h; cases m <;> first | exact ⟨h.1, h.2.imp fun _ _ k => ih hf k⟩ | exact h
 | _ => intro hf; cases hf
theorem LU (hD : DOk P D) (hM : MemOk P G w) (hgl : GlobOk P D.G G.av w) {c : Call} (ho : o.op = .call c) {f : FuncId} (hc : c.callee = .value (.func f)) {S : bA} (hS : D.F.lookup f = some S) (hf : eP S.rs = true) {r : Operand → K} (hr : ∀ x, KV P G w tm (r x) (a.eval x)) {x : den S.as} (hx : ob G.b S.as (c.args.toList.map r) = some x) (hp : S.pre x) :
    aj P o a G w tm (tX S.rs (S.g x)) [] := by
  have hok := hD.fns f S hS
  have hcall := hok.does G.O w _ x (fun g h => pC hM (.inl h)) (hgl.lat (pd G w)) (Mn hM hr _ _ _ hx) hp
  refine qY (f := f) (args := (c.args.toList.map a.eval).toArray) hM ?_ (hcall.mono fun e w' ⟨v, h1, h2, h3⟩ => ⟨v, h1, h2, GK hf h3⟩)
  have e : c.args.map a.eval = (c.args.toList.map a.eval).toArray := by apply Array.ext'; simp
  simp only [execOp, ho, resolve, hc, Act.eval, Deferred.ofValue, Sem.run_bind, Sem.run_pure, Result.andThen_ok, invoke, Array.append_empty, Array.empty_append]
  rw [e]
  exact hok.can _ _
theorem ME (hM : MemOk P G w) {t : Ty} {k : K} {v : Value} {x : den t} (hk : KV P G w tm k v) (h : yS G.b t k = some x) : aB P t G.O w v x := by
 unfold yS at h
 split at h
 ·rename_i t id base
  split at h
  ·rename_i u y hb
   obtain ⟨ee, rfl⟩ := ci h
   cases ee
   obtain ⟨_, _, g, hg, hv⟩ := hk
   have hbl := ao hb
   have hoff : aH base [] = 0 := by cases base <;> rfl
   rw [hoff] at hv
   obtain ⟨_, _, _, _, _, _, _, ho0⟩ := hM.box id _ hbl
   rw [ho0] at hv
   obtain ⟨L, d1, d2, d3, d4⟩ := DH hM hbl hg
   have hl := pd (G.drop id) w
   exact ⟨[v], rfl, ⟨g, 0, none⟩, L, by rw [hv], (hl.keep g d2 d1).2, d2, d3, d4.lat hl⟩
  ·cases h
 ·exact aB.lat (pd G w) (cp hk h)
theorem LG (hM : MemOk P G w) : ∀ (t : Ty) (k : K) (x : den t) (vs : List Value), KV P G w tm k (.tuple vs.toArray) → po G.b t k = some x → Rep P t .chain G.O w vs x := by
 intro t
 induction t with
 | unit =>
  intro k x vs hk h
  cases k <;> first | cases h | skip
  have e : vs = [] := by
   have : Value.tuple vs.toArray = Value.tuple #[] := hk
   injection this with this
   simpa using this
  exact e
 | pair t b _ ihb =>
  intro k x vs hk h
  cases k <;> first | cases h | skip
  rename_i k ks
  have h' : (match yS G.b t k, po G.b b ks with | some x, some y => some (x, y) | _, _ => none) = some x := h
  split at h'
  ·rename_i x1 x2 h1 h2
   have e := (Option.some.inj h').symm
   subst e
   obtain ⟨y, ys, e1, k1, k2⟩ := hk
   have e1 : vs = y :: ys := by injection e1 with e1; simpa using e1
   subst e1
   obtain ⟨cs, ev, hc⟩ := ME hM k1 h1
   exact ⟨ys, cs, by rw [ev], hc, ihb ks x2 ys k2 h2⟩
  ·cases h'
 | _ => intro k x vs hk h; cases k <;> cases h
theorem Ik (hM : MemOk P G w) {r : Operand → K} (hr : ∀ x, KV P G w tm (r x) (a.eval x)) {cap : K} {vs : List Value} (hc : KV P G w tm cap (.tuple vs.toArray)) : ∀ (l : List Operand) (t : Ty) (x : den t), j1 G.b t (l.map r) cap = some x → Rep P t .chain G.O w (l.map a.eval ++ vs) x
 | [], t, x, h => by
  have h : po G.b t cap = some x := by cases t <;> exact h
  exact LG hM t cap x vs hc h
 | q :: l, t, x, h => by
  cases t <;> first | cases h | skip
  rename_i t b
  have h' : (match asB G.b t (r q), j1 G.b b (l.map r) cap with | some x, some y => some (x, y) | _, _ => none) = some x := h
  split at h'
  ·rename_i x1 x2 h1 h2
   have e := (Option.some.inj h').symm
   subst e
   obtain ⟨cs, ev, hc'⟩ := Kj hM (hr q) h1
   exact ⟨l.map a.eval ++ vs, cs, by rw [List.map_cons, List.cons_append, ev], hc', Ik hM hr hc l b x2 h2⟩
  ·cases h'
theorem Nr (hD : DOk P D) (hM : MemOk P G w) (hgl : GlobOk P D.G G.av w) {c : Call} (ho : o.op = .call c) {q : Operand} (hc : c.callee = .value q) {f : FuncId} {cap : K} (hq : KV P G w tm (.clo f cap) (a.eval q)) {S : bA} (hS : D.F.lookup f = some S) (hf : eP S.rs = true) {r : Operand → K} (hr : ∀ x, KV P G w tm (r x) (a.eval x)) {x : den S.as} (hx : j1 G.b S.as (c.args.toList.map r) cap = some x) (hp : S.pre x) :
    aj P o a G w tm (tX S.rs (S.g x)) [] := by
  have hok := hD.fns f S hS
  obtain ⟨vs, hcap, ev⟩ := hq
  have hcall := hok.does G.O w _ x (fun g h => pC hM (.inl h)) (hgl.lat (pd G w)) (Ik hM hr hcap _ _ _ hx) hp
  refine qY (f := f) (args := (c.args.toList.map a.eval ++ vs).toArray) hM ?_ (hcall.mono fun e w' ⟨v, h1, h2, h3⟩ => ⟨v, h1, h2, GK hf h3⟩)
  have e : c.args.map a.eval ++ vs.toArray = (c.args.toList.map a.eval ++ vs).toArray := by apply Array.ext'; simp
  simp only [execOp, ho, resolve, hc, ev, Deferred.ofValue, Sem.run_bind, Sem.run_pure, Result.andThen_ok, invoke, Array.empty_append]
  rw [e]
  exact hok.can _ _
def rowG (O : Nat → Prop) (w : World) (hv : Value) (bk : Option Nat) (b : BS) : Gst :=
 { hd := fun _ => hv, bk := fun n => if n = 0 then bk else none, b := fun n => if n = 0 then b else .no, O, w0 := w, own := fun g => bk = some g }
structure n5 (P : Program) (Gl : gZ) (f : FuncId) (S : eN) : Prop where
 can : gW P f
 ret : S.ret = true
 does : ∀ (O : Nat → Prop) (w : World) (hv : Value) (bk : Option Nat) (xs : List (den S.e)) (vs : List Value) (y : den S.as),
  (S.arg = false → xs = [] ∧ bk = none) →
  MemOk P (rowG O w hv bk (if S.arg then .live (.row S.e xs) else .no)) w → GlobOk P Gl (rowG O w hv bk (if S.arg then .live (.row S.e xs) else .no)).av w →
  Rep P S.as .chain (rowG O w hv bk (if S.arg then .live (.row S.e xs) else .no)).av w vs y → S.pre xs y →
  Calls P f ((if S.arg then [hv] else []) ++ vs).toArray w fun e w' => ∃ v' G' i, e = .returned v' ∧ MemOk P G' w' ∧ G'.O = O ∧ G'.w0 = w ∧ (G'.own = fun g => bk = some g) ∧ G'.b i = .live (.row S.e (S.g xs y)) ∧ G'.hd i = v'
theorem JX (hM : MemOk P G w) {Gl : gZ} (hgl : GlobOk P Gl G.av w) {c : Call} (ho : o.op = .call c) {f : FuncId} (hc : c.callee = .value (.func f)) {S : eN} (hS : n5 P Gl f S) (harg : S.arg = true) {x : Operand} {l : List Operand} (hx : c.args.toList = x :: l) {kx : K} (hkx : KV P G w tm kx (a.eval x)) {v : Vw S.e} (hv : dI G.b S.e kx = some v)
    {r : Operand → K} (hr : ∀ x, KV P G w tm (r x) (a.eval x)) {y : den S.as} (hy : dv S.as (l.map r) = some y) (hok : v.ok) (hp : S.pre v.part y) {id : Nat} (hf : aR G.b id = true) :
    aj P o a G w tm (.sl id S.e) [(v.id, .dead), (id, .live (.row S.e (S.g v.part y)))] := by
  obtain ⟨n0, sp, hvo⟩ := jC hM hkx hv
  obtain ⟨a', hval, hle, hnone, hsome⟩ := hvo.val
  obtain ⟨bx, hlive⟩ := hvo.row.live
  have hid := bL hf
  have hne : id ≠ v.id := fun e => by rw [e, hlive] at hid; cases hid
  unfold Vw.ok at hok
  have hplen : v.part.length = v.n := by unfold Vw.part; simp; omega
  obtain ⟨bk, hbk, hbk2⟩ : ∃ bk : Option Nat, (bk = none ∨ bk = G.bk v.id) ∧ ((bk = none ∧ v.part = [] ∧ a.eval x = .slice a' 0 0) ∨ (bk = G.bk v.id ∧ v.lo < (v.kn ++ sp).length)) := by
    by_cases hlt : v.lo < (v.kn ++ sp).length
    · exact ⟨_, .inr rfl, .inr ⟨rfl, hlt⟩⟩
    · have h1 : v.n = 0 := by omega
      refine ⟨none, .inl rfl, .inl ⟨rfl, List.eq_nil_of_length_eq_zero (by omega), ?_⟩⟩
      rw [hval, h1, Nat.sub_eq_zero_of_le (by omega)]
  let Oc : Nat → Prop := fun g => G.O g ∨ ∃ i x, i ≠ v.id ∧ G.b i = .live x ∧ G.bk i = some g
  have hOc : ∀ g, Oc g → g < w.heap.size ∧ G.av g := fun g h => by
    rcases h with h | ⟨i, x, _, h1, h2⟩
    · exact ⟨hM.old g h, .inl h⟩
    · exact ⟨(fp hM h1 h2).1, .inr ⟨i, x, h1, h2⟩⟩
  have hdis : ∀ g, bk = some g → ¬ Oc g ∧ G.av g ∧ g < w.heap.size := fun g hg => by
    have hk : G.bk v.id = some g := by rcases hbk with h | h <;> rw [h] at hg <;> first | exact hg | cases hg
    refine ⟨?_, .inr ⟨_, _, hlive, hk⟩, (fp hM hlive hk).1⟩
    rintro (h | ⟨i, x, h0, h1, h2⟩)
    · exact (Gst.drop_not_av hM hlive hk) (.inl h)
    · exact h0 (hM.sep i v.id x bx g h1 hlive h2 hk)
  let G0 := rowG Oc w (a.eval x) bk (if S.arg then .live (.row S.e v.part) else .no)
  have hG0b : G0.b 0 = .live (.row S.e v.part) := by show (if S.arg then _ else _) = _; rw [harg]; rfl
  have hav0 : ∀ g, G0.av g → G.av g := by
    rintro g (h | ⟨i, z, h1, h2⟩)
    · exact (hOc g h).2
    · by_cases e : i = 0
      · subst e; exact (hdis g h2).2.1
      · simp [G0, rowG, e] at h1
  have hlat0 : Lat G.av w G0.av w := ⟨Nat.le_refl _, fun b _ h => ⟨rfl, fun h' => h (hav0 b h')⟩⟩
  have hM0 : MemOk P G0 w := by
    refine ⟨(Kept.refl w).x _, fun g h => (hOc g h).1, fun g h => ⟨(hdis g h).1, (hdis g h).2.2⟩, fun i z hi => ?_, fun i j y z g hi hj _ _ => ?_, fun i z g hi ki => ?_⟩
    rotate_right
    · by_cases e : i = 0
      · subst e; exact (hdis g ki).1
      · simp [G0, rowG, e] at hi
    · by_cases e : i = 0
      · subst e
        rw [hG0b] at hi
        cases hi
        rcases hbk2 with ⟨e1, e2, e3⟩ | ⟨e1, hlt⟩
        · exact .inl ⟨e2, e1, a', e3⟩
        · rcases hvo.row.row with ⟨h1, _⟩ | ⟨g, arr, eid, off, hk, hh, hnb, hg, hn, hm, hs, hrp⟩
          · have := congrArg List.length h1; simp only [List.length_nil] at this; omega
          · have hA : arr.toList.length = arr.size := Array.length_toList
            have hfull : ((arr.toList.drop off).take ((v.kn ++ sp).length * siz S.e)).length = (v.kn ++ sp).length * siz S.e := by rw [List.length_take, List.length_drop, hA]; omega
            have hx := hrp.take_drop v.lo (v.kn ++ sp).length (Nat.le_refl _) hfull
            rw [List.take_of_length_le (Nat.le_refl _), List.take_of_length_le (by rw [hfull]; exact Nat.le_refl _)] at hx
            have hdrop : (v.kn ++ sp).drop v.lo = v.part ++ (v.kn ++ sp).drop (v.lo + v.n) := by
              unfold Vw.part
              rw [← List.drop_drop]
              have e1 : ((v.kn.drop v.lo).take v.n) = ((v.kn ++ sp).drop v.lo).take v.n := by
                rw [List.drop_append_of_le_length (by omega), List.take_append_of_le_length (by simp; omega)]
              rw [e1, List.take_append_drop]
            have hlen2 : (v.part ++ (v.kn ++ sp).drop (v.lo + v.n)).length = (v.kn ++ sp).length - v.lo := by rw [← hdrop, List.length_drop]
            have hmul : v.lo * siz S.e + ((v.kn ++ sp).length - v.lo) * siz S.e = (v.kn ++ sp).length * siz S.e := by rw [← Nat.add_mul]; congr 1; omega
            refine .inr ⟨g, arr, eid, off + v.lo * siz S.e, (v.kn ++ sp).drop (v.lo + v.n), ?_, ?_, ?_, hg, ?_, ?_, ?_⟩
            · show (if (0 : Nat) = 0 then bk else none) = _; rw [if_pos rfl, e1]; exact hk
            · show a.eval x = _
              rw [hval, hsome g off hk hh hlt, hplen, hlen2]
            · right; show bk = some g; rw [e1]; exact hk
            · rw [hlen2]; omega
            · rw [hlen2]; omega
            · rw [hlen2, ← hdrop]
              have e5 : (arr.toList.drop (off + v.lo * siz S.e)).take (((v.kn ++ sp).length - v.lo) * siz S.e) = ((arr.toList.drop off).take ((v.kn ++ sp).length * siz S.e)).drop (v.lo * siz S.e) := by
                rw [List.drop_take, List.drop_drop, Nat.sub_mul]
              rw [e5]
              exact hx.imp fun _ _ r => r.lat hlat0
      · simp [G0, rowG, e] at hi
    · by_cases e : i = 0
      · by_cases f : j = 0
        · rw [e, f]
        · simp [G0, rowG, f] at hj
      · simp [G0, rowG, e] at hi
  have hcall := hS.does Oc w (a.eval x) bk v.part (l.map a.eval) y (fun h => by rw [harg] at h; cases h) hM0 (hgl.lat hlat0) ((nB hr S.as l y hy).lat hlat0) hp
  rw [if_pos harg] at hcall
  have hrun : (execOp a.eval o).run P w = .ok (.enter f (a.eval x :: l.map a.eval).toArray) w := by
    have e : c.args.map a.eval = (a.eval x :: l.map a.eval).toArray := by apply Array.ext'; rw [Array.toList_map, hx]; rfl
    simp only [execOp, ho, resolve, hc, Act.eval, Deferred.ofValue, Sem.run_bind, Sem.run_pure, Result.andThen_ok, invoke, Array.append_empty, Array.empty_append]
    rw [e]
    exact hS.can _ _
  intro next Q h
  unfold Oper.wp
  rw [hrun]
  refine Calls.mono hcall ?_
  rintro e w' ⟨v', Gc, i, rfl, hMc, hOe, hw0, hown, hbi, hhd⟩
  have hkc := hMc.kept
  rw [hw0, hown] at hkc
  have hgi : Gc.bk i = none ∨ Gc.bk i = G.bk v.id ∨ ∃ n, Gc.bk i = some n ∧ w.heap.size ≤ n := by
    cases hk : Gc.bk i with
    | none => exact .inl rfl
    | some g =>
      rcases (fp hMc hbi hk).2 with h1 | h1
      · exact .inr (.inr ⟨g, rfl, by rw [hw0] at h1; exact h1⟩)
      · rw [hown] at h1
        have h1 : bk = some g := h1
        right; left
        rcases hbk with h2 | h2
        · rw [h2] at h1; cases h1
        · rw [← h2, h1]
  obtain ⟨hM', hE⟩ := hM.swapE (w' := w') (j := some v.id) (id := id) (h := v') (g := Gc.bk i) (x := .row S.e (S.g v.part y)) (gj := G.bk v.id) hid (fun i hi => by cases hi; exact ⟨⟨_, hlive⟩, rfl⟩) (fun h => by cases h)
    hkc.os hkc.tape hkc.output hkc.size (fun b hb hne => hkc.block b hb (fun h1 => hne (by rcases hbk with h2 | h2 <;> rw [h2] at h1 <;> first | exact h1.symm | cases h1))) hgi (fun G' eG hE e1 e2 => by
      have hbx := hMc.box i _ hbi
      have hlatc : Lat Gc.av w' G'.av w' := by
        refine ⟨Nat.le_refl _, fun b _ hb => ⟨rfl, ?_⟩⟩
        rintro (h1 | ⟨i', z, h1, h2⟩)
        · have h1 : G.O b := by rw [eG] at h1; exact h1
          exact hb (.inl (by rw [hOe]; exact .inl h1))
        · by_cases e : i' = id
          · rw [e, e2] at h2
            exact hb (.inr ⟨i, _, hbi, h2⟩)
          · subst eG
            by_cases e' : i' = v.id
            · simp [Gst.swap, e, e', Ne.symm hne] at h1
            · have h1' : G.b i' = .live z := by simpa [Gst.swap, e, e'] using h1
              have h2' : G.bk i' = some b := by simpa [Gst.swap, e] using h2
              exact hb (.inl (by rw [hOe]; exact .inr ⟨i', z, e', h1', h2'⟩))
      rcases hbx with ⟨q0, q1, a0, q2⟩ | ⟨g, arr, eid, off, sp', q1, q2, q3, q4, q5, q6, q8⟩
      · exact .inl ⟨q0, by rw [e2]; exact q1, a0, by rw [e1, ← hhd]; exact q2⟩
      · refine .inr ⟨g, arr, eid, off, sp', by rw [e2]; exact q1, by rw [e1, ← hhd]; exact q2, ?_, q4, q5, q6, q8.imp fun _ _ r => r.lat hlatc⟩
        unfold Gst.nb
        rw [hE.w0, hE.own]
        rcases q3 with h1 | h1
        · rw [hw0] at h1; exact .inl (Nat.le_trans hM.kept.size h1)
        · rw [hown] at h1
          have hk : G.bk v.id = some g := by rcases hbk with h2 | h2 <;> rw [h2] at h1 <;> first | exact h1 | cases h1
          exact (fp hM hlive hk).2)
  refine h _ _ v' ?_ hE hM' ⟨⟨.row S.e _, .inl (by simp [Gst.swap]; rfl)⟩, by simp [Gst.swap]⟩
  funext n
  by_cases e1 : n = id
  · simp [Gst.swap, aD, e1]
  · by_cases e2 : n = v.id
    · simp [Gst.swap, aD, e2]
    · simp [Gst.swap, aD, e1, e2]
structure qZ (P : Program) (Gl : gZ) (f : FuncId) (S : eN) : Prop where
 can : gW P f
 ret : S.ret = false
 len : ∀ xs y, S.pre xs y → (S.g xs y).length = xs.length
 nil : ∀ (O : Nat → Prop) (w : World) (a0 : Option Addr) (c : Nat) (vs : List Value) (y : den S.as), (∀ g, O g → g < w.heap.size) → GlobOk P Gl O w → Rep P S.as .chain O w vs y → S.pre [] y →
  Calls P f (.slice a0 0 c :: vs).toArray w fun e w' => e = .returned (.tuple #[]) ∧ Kept w w'
 does : ∀ (O : Nat → Prop) (w : World) (g off c : Nat) (arr : Array Value) (eid : TypeId) (xs : List (den S.e)) (vs : List Value) (y : den S.as), (∀ g, O g → g < w.heap.size) → O g → GlobOk P Gl O w → xs ≠ [] →
  RowObj S.e w.heap[g]? arr eid → off + xs.length * siz S.e ≤ arr.size → xs.length ≤ c → c ≤ maxLen → RepAll (Rep P S.e .cells O w) (siz S.e) ((arr.toList.drop off).take (xs.length * siz S.e)) xs →
  Rep P S.as .chain O w vs y → S.pre xs y →
  Calls P f (.slice (some ⟨g, off, none⟩) xs.length c :: vs).toArray w fun e w' => e = .returned (.tuple #[]) ∧ ∃ L, L.length = xs.length * siz S.e ∧ RepAll (Rep P S.e .cells O w) (siz S.e) L (S.g xs y) ∧ Kept (w.setRow g (ar arr.toList off L).toArray) w'
def ROk (P : Program) (Gl : gZ) (f : FuncId) (S : eN) : Prop := n5 P Gl f S ∨ qZ P Gl f S
theorem Ez {arr L : List Value} {off A N : Nat} (hL : L.length = A) (hA : A ≤ N) (h : off + N ≤ arr.length) : ((ar arr off L).drop off).take N = L ++ ((arr.drop off).take N).drop A := by
 have h1 : (arr.take off).length = off := by rw [List.length_take]; omega
 have h2 : (ar arr off L).drop off = L ++ arr.drop (off + A) := by
  unfold ar
  simp only [List.append_assoc]
  rw [List.drop_append, h1, Nat.sub_self, List.drop_zero, List.drop_of_length_le (by omega), List.nil_append, hL]
 rw [h2, List.take_append, List.take_of_length_le (by omega), hL, List.drop_take, List.drop_drop]
theorem J3 (hM : MemOk P G w) {Gl : gZ} (hgl : GlobOk P Gl G.av w) {c : Call} (ho : o.op = .call c) {f : FuncId} (hc : c.callee = .value (.func f)) {S : eN} (hS : qZ P Gl f S) {x : Operand} {l : List Operand} (hx : c.args.toList = x :: l) {id : Nat} {e' : Ty} (hkx : KV P G w tm (.sl id e') (a.eval x)) {xs : List (den S.e)} (hb : G.b id = .live (.row S.e xs))
    {r : Operand → K} (hr : ∀ x, KV P G w tm (r x) (a.eval x)) {y : den S.as} (hy : dv S.as (l.map r) = some y) (hp : S.pre xs y) : aj P o a G w tm .any [(id, .live (.row S.e (S.g xs y)))] := by
  obtain ⟨_, ex⟩ := hkx
  have hargs := nB hr S.as l y hy
  have hrun : (execOp a.eval o).run P w = .ok (.enter f (a.eval x :: l.map a.eval).toArray) w := by
    have e : c.args.map a.eval = (a.eval x :: l.map a.eval).toArray := by apply Array.ext'; rw [Array.toList_map, hx]; rfl
    simp only [execOp, ho, resolve, hc, Act.eval, Deferred.ofValue, Sem.run_bind, Sem.run_pure, Result.andThen_ok, invoke, Array.append_empty, Array.empty_append]
    rw [e]
    exact hS.can _ _
  have hav : ∀ g, G.av g → g < w.heap.size := fun g h => pC hM h
  intro next Q h
  unfold Oper.wp
  rw [hrun]
  by_cases hnil : xs = []
  · subst hnil
    have hg0 : S.g [] y = [] := List.eq_nil_of_length_eq_zero (hS.len _ _ hp)
    obtain ⟨a0, c0, hhd, _⟩ := BC hM hb
    rw [ex, hhd]
    refine Calls.mono (hS.nil G.av w a0 c0 _ y hav hgl hargs hp) ?_
    rintro e w' ⟨rfl, hk⟩
    obtain ⟨hM', hE⟩ := hM.kept_on hk
    refine h G w' _ ?_ hE hM' trivial
    funext n
    by_cases e1 : n = id
    · subst e1; simp [aD, hg0, hb]
    · simp [aD, e1]
  · rcases hM.box id _ hb with ⟨h1, _⟩ | ⟨g, arr, eid, off, sp, q1, q2, q3, q4, q5, q6, q8⟩
    · exact absurd h1 hnil
    · have hA : arr.toList.length = arr.size := Array.length_toList
      have hl : xs.length * siz S.e ≤ (xs ++ sp).length * siz S.e := Nat.mul_le_mul_right _ (by simp)
      have hfull : ((arr.toList.drop off).take ((xs ++ sp).length * siz S.e)).length = (xs ++ sp).length * siz S.e := by rw [List.length_take, List.length_drop, hA]; omega
      obtain ⟨s1, s2⟩ := RepAll.split q8 hfull
      rw [List.take_take, Nat.min_eq_left hl] at s1
      rw [ex, q2]
      refine Calls.mono (hS.does G.av w g off _ arr eid xs _ y hav (.inr ⟨id, _, hb, q1⟩) hgl hnil q4 (by omega) (by simp) q5 s1 hargs hp) ?_
      rintro e w' ⟨rfl, L, hL, hrep, hk⟩
      have hlen := hS.len _ _ hp
      have hcap : (S.g xs y ++ sp).length = (xs ++ sp).length := by simp [hlen]
      have hspl : (ar arr.toList off L).length = arr.toList.length := d8 (by rw [hL, hA]; omega)
      obtain ⟨hM1, hE1⟩ := hM.turn hb q1 (cs := (ar arr.toList off L).toArray) (x := .row S.e (S.g xs y)) (fun G' w' e0 hE e1 e2 => by
        refine .inr ⟨g, (ar arr.toList off L).toArray, eid, off, sp, e2, by rw [e1, q2, hcap, hlen], ?_, ?_, by rw [hcap]; exact q5, ?_, ?_⟩
        · unfold Gst.nb
          rw [hE.w0, hE.own]
          exact q3
        · rw [e0]
          exact RowObj.set q4 (by rw [List.size_toArray, hspl, hA])
        · rw [List.size_toArray, hspl, hA, hcap]; exact q6
        · show RepAll _ _ (((ar arr.toList off L).drop off).take ((S.g xs y ++ sp).length * siz S.e)) _
          rw [hcap, Ez hL hl (by rw [hA]; exact q6)]
          exact RepAll.append (by rw [hL, hlen]) (hrep.imp fun _ _ r => r.lat hE.lat) (s2.imp fun _ _ r => r.lat hE.lat))
      obtain ⟨hM2, hE2⟩ := hM1.kept_on hk
      exact h _ w' _ rfl (hE1.trans hE2) hM2 trivial
theorem JU (hM : MemOk P G w) {Gl : gZ} (hgl : GlobOk P Gl G.av w) {c : Call} (ho : o.op = .call c) {f : FuncId} (hc : c.callee = .value (.func f)) {S : eN} (hS : qZ P Gl f S) {x : Operand} {l : List Operand} (hx : c.args.toList = x :: l) (hkx : KV P G w tm .nilsl (a.eval x))
    {r : Operand → K} (hr : ∀ x, KV P G w tm (r x) (a.eval x)) {y : den S.as} (hy : dv S.as (l.map r) = some y) (hp : S.pre [] y) : aj P o a G w tm .any [] := by
  have hargs := nB hr S.as l y hy
  have hrun : (execOp a.eval o).run P w = .ok (.enter f (a.eval x :: l.map a.eval).toArray) w := by
    have e : c.args.map a.eval = (a.eval x :: l.map a.eval).toArray := by apply Array.ext'; rw [Array.toList_map, hx]; rfl
    simp only [execOp, ho, resolve, hc, Act.eval, Deferred.ofValue, Sem.run_bind, Sem.run_pure, Result.andThen_ok, invoke, Array.append_empty, Array.empty_append]
    rw [e]
    exact hS.can _ _
  have hav : ∀ g, G.av g → g < w.heap.size := fun g h => pC hM h
  have hkx : a.eval x = .slice none 0 0 := hkx
  intro next Q h
  unfold Oper.wp
  rw [hrun, hkx]
  refine Calls.mono (hS.nil G.av w none 0 _ y hav hgl hargs hp) ?_
  rintro e w' ⟨rfl, hk⟩
  obtain ⟨hM', hE⟩ := hM.kept_on hk
  exact h G w' _ rfl hE hM' trivial
end
end Go.Proofs.Ytimdnodkabnbfaa
namespace Go.Proofs.Ytimdnodkabnbfaa
open Go Go.RowKit
def Jm (P : Program) (D : aJ) (f : FuncId) : Prop := ∃ tS tR e, D.ty tS = some (.slc e) ∧ ∀ args w v, (Extern.SlicesOverlaps.overlaps #[tS, tS] #[tR] args).run P w = .ok v w → (callFunc f args).run P w = .ok (.value v) w
structure cQ (P : Program) (D : aJ) : Prop extends DOk P D where
 rows : ∀ f S, D.R.lookup f = some S → ROk P D.G f S
 ovl : ∀ f, D.ovl.contains f = true → Jm P D f
section
variable {P : Program} {D : aJ} {o : Oper} {a : Act} {G : Gst} {w : World} {tm : Nat → Value}
theorem ID (hM : MemOk P G w) {Gl : gZ} (hgl : GlobOk P Gl G.av w) {c : Call} (ho : o.op = .call c) {f : FuncId} (hc : c.callee = .value (.func f)) {S : eN} (hS : n5 P Gl f S) (harg : S.arg = false)
    {r : Operand → K} (hr : ∀ x, KV P G w tm (r x) (a.eval x)) {y : den S.as} (hy : dv S.as (c.args.toList.map r) = some y) (hp : S.pre [] y) {id : Nat} (hf : aR G.b id = true) :
    aj P o a G w tm (.sl id S.e) [(id, .live (.row S.e (S.g [] y)))] := by
  have hid := bL hf
  let G0 := rowG G.av w undef none (if S.arg then .live (.row S.e []) else .no)
  have hb0 : ∀ i, G0.b i = .no := fun i => by
    show (if i = 0 then (if S.arg then _ else BS.no) else .no) = _
    rw [harg]; split <;> rfl
  have hav0 : ∀ g, G0.av g → G.av g := by
    rintro g (h | ⟨i, z, h1, h2⟩)
    · exact h
    · rw [hb0] at h1; cases h1
  have hlat0 : Lat G.av w G0.av w := ⟨Nat.le_refl _, fun b _ h => ⟨rfl, fun h' => h (hav0 b h')⟩⟩
  have hM0 : MemOk P G0 w := ⟨(Kept.refl w).x _, fun g h => pC hM h, fun g h => (by cases h), fun i z hi => (by rw [hb0] at hi; cases hi), fun i j y z g hi _ _ _ => (by rw [hb0] at hi; cases hi), fun i z g hi _ => (by rw [hb0] at hi; cases hi)⟩
  have hcall := hS.does G.av w undef none [] (c.args.toList.map a.eval) y (fun _ => ⟨rfl, rfl⟩) hM0 (hgl.lat hlat0) ((nB hr S.as _ y hy).lat hlat0) hp
  have e0 : ((if S.arg = true then [undef] else []) ++ c.args.toList.map a.eval).toArray = c.args.map a.eval := by rw [harg]; apply Array.ext'; simp
  rw [e0] at hcall
  have hrun : (execOp a.eval o).run P w = .ok (.enter f (c.args.map a.eval)) w := by
    simp only [execOp, ho, resolve, hc, Act.eval, Deferred.ofValue, Sem.run_bind, Sem.run_pure, Result.andThen_ok, invoke, Array.append_empty, Array.empty_append]
    exact hS.can _ _
  intro next Q h
  unfold Oper.wp
  rw [hrun]
  refine Calls.mono hcall ?_
  rintro e w' ⟨v', Gc, i, rfl, hMc, hOe, hw0, hown, hbi, hhd⟩
  have hkc := hMc.kept
  rw [hw0, hown] at hkc
  have hgi : Gc.bk i = none ∨ Gc.bk i = none ∨ ∃ n, Gc.bk i = some n ∧ w.heap.size ≤ n := by
    cases hk : Gc.bk i with
    | none => exact .inl rfl
    | some g =>
      rcases (fp hMc hbi hk).2 with h1 | h1
      · exact .inr (.inr ⟨g, rfl, by rw [hw0] at h1; exact h1⟩)
      · rw [hown] at h1; cases h1
  obtain ⟨hM', hE⟩ := hM.swapE (w' := w') (j := none) (id := id) (h := v') (g := Gc.bk i) (x := .row S.e (S.g [] y)) (gj := none) hid (fun i hi => by cases hi) (fun _ => rfl)
    hkc.os hkc.tape hkc.output hkc.size (fun b hb _ => hkc.block b hb (fun h1 => by cases h1)) hgi (fun G' eG hE e1 e2 => by
      have hbx := hMc.box i _ hbi
      have hlatc : Lat Gc.av w' G'.av w' := by
        refine ⟨Nat.le_refl _, fun b _ hb => ⟨rfl, ?_⟩⟩
        rintro (h1 | ⟨i', z, h1, h2⟩)
        · have h1 : G.O b := by rw [eG] at h1; exact h1
          exact hb (.inl (by rw [hOe]; exact .inl h1))
        · by_cases e : i' = id
          · rw [e, e2] at h2
            exact hb (.inr ⟨i, _, hbi, h2⟩)
          · subst eG
            have h1' : G.b i' = .live z := by simpa [Gst.swap, e] using h1
            have h2' : G.bk i' = some b := by simpa [Gst.swap, e] using h2
            exact hb (.inl (by rw [hOe]; exact .inr ⟨i', z, h1', h2'⟩))
      rcases hbx with ⟨q0, q1, a0, q2⟩ | ⟨g, arr, eid, off, sp', q1, q2, q3, q4, q5, q6, q8⟩
      · exact .inl ⟨q0, by rw [e2]; exact q1, a0, by rw [e1, ← hhd]; exact q2⟩
      · refine .inr ⟨g, arr, eid, off, sp', by rw [e2]; exact q1, by rw [e1, ← hhd]; exact q2, ?_, q4, q5, q6, q8.imp fun _ _ r => r.lat hlatc⟩
        unfold Gst.nb
        rw [hE.w0, hE.own]
        rcases q3 with h1 | h1
        · rw [hw0] at h1; exact .inl (Nat.le_trans hM.kept.size h1)
        · rw [hown] at h1; cases h1)
  refine h _ _ v' ?_ hE hM' ⟨⟨.row S.e _, .inl (by simp [Gst.swap]; rfl)⟩, by simp [Gst.swap]⟩
  funext n
  by_cases e1 : n = id
  · simp [Gst.swap, aD, e1]
  · simp [Gst.swap, aD, e1]
theorem I5 {w : World} {ad : Addr} {v : Value} (h : w.cell? ad = some v) : ∃ c e fr, w.heap[ad.block]? = some (.cells c e fr) ∧ 0 < c.size := by
  unfold World.cell? at h
  split at h
  · rename_i c e fr hc
    split at h
    · cases h
    · exact ⟨c, e, fr, hc, by rcases Nat.eq_zero_or_pos c.size with h0 | h0
                              · rw [Array.eq_empty_of_size_eq_zero h0] at h; simp at h
                              · exact h0⟩
  · cases h
theorem Hk (tS tR : TypeId) (a b : Option Addr) (la ca lb cb : Nat) : Extern.SlicesOverlaps.overlaps #[tS, tS] #[tR] #[.slice a la ca, .slice b lb cb] = (do
    let some t := (#[tS, tS] : Array TypeId)[0]? | stuck "slices.overlaps: no parameter types"
    let .slice elem ← underlying t | stuck "slices.overlaps: slice type expected"
    let size ← Go.sizeOf elem
    match a, b with
    | some a, some b =>
      if la = 0 ∨ lb = 0 ∨ size = 0 then pure (Value.bool false)
      else if a.block != b.block && (← frozen a) && (← frozen b) then unsupported .addressObserved
      else do
        if a.block != b.block then do
          noView a; noView b
          if ← mayBeOne a b then return Value.bool ((← choose (.extern "sameAddr.stringBytes" 2)) == 1)
        pure (Value.bool (a.block == b.block && a.off < b.off + lb * size && b.off < a.off + la * size))
    | _, _ => pure (Value.bool false) : Sem Value) := rfl
theorem AL {tS tR ei : TypeId} (hu : P.underlying tS = some (.slice ei)) {sz : Nat} (hsz : ∀ w, (Go.sizeOf ei).run P w = .ok sz w) {a0 b0 : Option Addr} {la ca lb cb : Nat}
    (h : la ≠ 0 → lb ≠ 0 → ∀ ad bd, a0 = some ad → b0 = some bd → ad.block ≠ bd.block ∧ (∃ c e fr, w.heap[ad.block]? = some (.cells c e fr) ∧ 0 < c.size) ∧ ∃ c e, w.heap[bd.block]? = some (.cells c e (0, 0))) :
    (Extern.SlicesOverlaps.overlaps #[tS, tS] #[tR] #[.slice a0 la ca, .slice b0 lb cb]).run P w = .ok (.bool false) w := by
  rw [Hk]
  cases a0 with
  | none => simp [run_underlying hu, hsz]
  | some ad =>
    cases b0 with
    | none => simp [run_underlying hu, hsz]
    | some bd =>
      by_cases h0 : la = 0 ∨ lb = 0 ∨ sz = 0
      · simp [run_underlying hu, hsz, h0]
      · have h1 : la ≠ 0 := fun e => h0 (.inl e)
        have h2 : lb ≠ 0 := fun e => h0 (.inr (.inl e))
        obtain ⟨hne, ⟨c, e, fr, hA, hA0⟩, c', e', hB⟩ := h h1 h2 ad bd rfl rfl
        have hnb : (ad.block != bd.block) = true := by simpa using hne
        have hnb' : (ad.block == bd.block) = false := by simpa using hne
        have hsA : w.shape? ad.block = some (e, c.size) := by unfold World.shape?; rw [hA]
        have hsB : w.shape? bd.block = some (e', c'.size) := by unfold World.shape?; rw [hB]
        have hfB : ∀ x : Addr, x.block = bd.block → w.frozen? x = false := fun x hx => by unfold World.frozen?; rw [hx, hB]; simp
        have hfB1 := hfB bd rfl
        have hfB2 := hfB ⟨bd.block, c'.size, none⟩ rfl
        obtain ⟨k, hk⟩ : ∃ k, c.size = k + 1 := ⟨c.size - 1, by omega⟩
        rw [hk] at hsA
        simp [run_underlying hu, hsz, h0, hnb, hnb', frozen, noView, viewAt, mayBeOne, stringish, shape, Sem.run, hsA, hsB, hfB1, hfB2]
theorem IS (hD : DOk P D) (hM : MemOk P G w) {c : Call} (ho : o.op = .call c) {f : FuncId} (hc : c.callee = .value (.func f)) (hf : Jm P D f) {x y : Operand} (hx : c.args.toList = [x, y]) {e1 e2 : Ty} {xs : List (den e1)} (hkx : KV P G w tm (.val (.slc e1) xs) (a.eval x)) (h1 : 1 ≤ siz e1) {id lo n : Nat} (hky : KV P G w tm (.vw id e2 lo n) (a.eval y))
    {bx : Bx} (hl : G.b id = .live bx) {e3 : Ty} (hne3 : ¬ e3 = .int .u8) {n3 : Nat} {zs : List (den e3)} (hrow : tF P G w id e3 n3 zs) : aj P o a G w tm (.val .bool false) [] := by
  obtain ⟨tS, tR, e, htS, hov⟩ := hf
  obtain ⟨ei, hu, hte, hse⟩ := aV (hD.fit htS).shape
  have hsz := fun w => (hD.fit hte).sizeOf w
  refine aA hM (v := .bool false) ?_ (bv.2 rfl)
  have e : c.args.map a.eval = #[a.eval x, a.eval y] := by apply Array.ext'; rw [Array.toList_map, hx]; rfl
  simp only [execOp, ho, resolve, hc, Act.eval, Deferred.ofValue, Sem.run_bind, Sem.run_pure, Result.andThen_ok, invoke, Array.append_empty, Array.empty_append]
  rw [e]
  refine hov _ _ _ ?_
  obtain ⟨cs, ex, a0, cc, L, rfl, x2, x3, x4, x5, x6, x7⟩ := hkx
  have ex : a.eval x = .slice a0 xs.length cc := ex
  obtain ⟨_, aa, len, cap, hh, hle, a', ey, ha⟩ := hky
  rw [ex, ey]
  refine AL hu hsz fun l1 l2 ad bd ea eb => ?_
  have hxe : xs ≠ [] := fun h => l1 (by rw [h]; rfl)
  obtain ⟨ad', ea', q1, q2, q3⟩ := x6 hxe
  rw [ea] at ea'
  cases ea'
  have hL : 0 < L.length := by
    rw [x4]; exact Nat.mul_pos (List.length_pos_iff.2 hxe) h1
  have hc0 := q3 0 (L[0]'hL) (by simp [List.getElem?_eq_getElem hL])
  obtain ⟨cA, eA, frA, hA, hA0⟩ := I5 hc0
  rw [dE] at hA
  rcases hrow with ⟨r1, r2, r3, aa', r4⟩ | ⟨g, arr, eid, off, r1, r2, r3, r4, r5, _⟩
  · rw [r4] at hh; injection hh with _ _ h3; omega
  · rw [r2] at hh
    injection hh with h3 _ h5
    have hb := ha (by omega)
    rw [← h3] at hb
    rw [eb] at hb
    simp only [Option.map_some, cL, Option.some.injEq] at hb
    subst hb
    obtain ⟨fz, r4, hfz⟩ := r4
    rcases hfz with rfl | ⟨hfz, _⟩
    · exact ⟨fun e => q1 (e ▸ .inr ⟨id, bx, hl, r1⟩), ⟨cA, eA, frA, hA, hA0⟩, arr, eid, r4⟩
    · exact absurd hfz hne3
def Ma (P : Program) (o : Oper) (a : Act) (G : Gst) (w : World) (tm : Nat → Value) : Eff → Prop
 | .one k ch ps => (∀ p ∈ ps, p) → aj P o a G w tm k ch
 | .ex _ p k ch => ∃ x, p x ∧ aj P o a G w tm (k x) (ch x)
theorem Nj (hM : MemOk P G w) {e : Ty} {id n : Nat} {kn : List (den e)} (h : g6 G.b e id = some (n, kn)) : ∃ bx n3 zs, G.b id = .live bx ∧ tF P G w id e n3 zs := by
 obtain ⟨sp, hr⟩ := AG hM h
 obtain ⟨x, hx⟩ := hr.live
 exact ⟨x, n, _, hx, hr.row⟩
set_option maxHeartbeats 1000000 in
theorem ug (hX : cQ P D) (hM : MemOk P G w) (hgl : GlobOk P D.G G.av w) {r : Operand → K} (hr : ∀ x, KV P G w tm (r x) (a.eval x)) {id : Nat} {q : Eff} (h : fP D o r G.b id = some q) :
    Ma P o a G w tm q := by
  have hD := hX.toDOk
  unfold fP at h
  split at h
  ·
    rename_i x i ho
    split at h
    · rename_i p c hx
      split at h
      · rename_i hne
        have e := (Option.some.inj h).symm
        subst e
        have hkx := hr x
        rw [hx] at hkx
        exact fun _ => Ca hM ho hkx hne
      · cases h
    · cases h
  ·
    rename_i f first captured ho
    split at h
    · rename_i h0
      have e := (Option.some.inj h).symm
      subst e
      exact fun _ => ND hM ho h0 hr
    · cases h
  ·
    rename_i op tx x y ty ho
    split at h
    · rename_i e ht
      split at h
      · rename_i hy
        have hyv : a.eval y = .slice none 0 0 := by
          have := hr y
          unfold JS at hy
          split at hy
          · rename_i e; rw [e] at this; exact this
          · cases hy
        split at h
        all_goals first | cases h | skip
        all_goals rename_i hq
        · rename_i c
          obtain ⟨aa, n, cc, ev, h1, _⟩ := ze hM (hr x) hq
          have := ET (tm := tm) (neq := false) hD hM ho ht ev hyv
          rw [h1 c rfl] at this
          exact fun _ => this
        · rename_i c
          obtain ⟨aa, n, cc, ev, h1, _⟩ := ze hM (hr x) hq
          have := ET (tm := tm) (neq := true) hD hM ho ht ev hyv
          rw [h1 c rfl] at this
          exact fun _ => this
        · rename_i p
          obtain ⟨aa, n, cc, ev, _, h1⟩ := ze hM (hr x) hq
          exact ⟨aa.isNone, h1 p rfl, ET (tm := tm) (neq := false) hD hM ho ht ev hyv⟩
        · rename_i p
          obtain ⟨aa, n, cc, ev, _, h1⟩ := ze hM (hr x) hq
          exact ⟨aa.isNone, h1 p rfl, ET (tm := tm) (neq := true) hD hM ho ht ev hyv⟩
      · cases h
    · cases h
  ·
    rename_i tx x lo hi mx ho
    split at h
    · rename_i e ht
      split at h
      · rename_i v hv
        split at h
        · rename_i l hh hl hhi
          split at h
          · have e := (Option.some.inj h).symm
            subst e
            exact fun hp => IR hD hM ho ht (hr x) hv (fd hr hl) (fd hr hhi) (hp _ (by simp)) (hp _ (by simp))
          · rename_i mo
            split at h
            · rename_i m hm
              split at h
              · rename_i hiq
                have e := (Option.some.inj h).symm
                subst e
                intro hp
                obtain ⟨n0, sp, hvo⟩ := jC hM (hr x) hv
                obtain ⟨a', hval, _⟩ := hvo.val
                have hvk : v.ok := hp _ (by simp)
                have hc : bP l hh m := hp _ (by simp)
                have hmc : m ≤ ((v.kn.length - v.lo : Nat) : Int) := hp _ (by simp)
                have hh2 : ∃ q k, hi = some q ∧ a.eval q = .int k hh := by
                  rcases fd hr hhi with ⟨e1, _⟩ | h2
                  · rw [e1] at hiq; cases hiq
                  · exact h2
                exact Gx hD hM ho ht hval (fd hr hl) hh2 (js (hr _) hm) hc (by
                  have : ((v.kn.length - v.lo : Nat) : Int) ≤ (((v.kn ++ sp).length - v.lo : Nat) : Int) := by simp only [List.length_append]; omega
                  omega)
              · cases h
            · cases h
        · cases h
      · split at h
        · rename_i xs mo hxs
          split at h
          · rename_i l hh m hl hhi hm
            split at h
            · rename_i hiq
              have e := (Option.some.inj h).symm
              subst e
              intro hp
              obtain ⟨cs, ev, a0, cc, L, rfl, x2, x3, x4, x5, x6, x7⟩ := cp (hr x) hxs
              have hc : bP l hh m := hp _ (by simp)
              have hmc : m ≤ (xs.length : Int) := hp (m ≤ ln (e := e) xs) (by simp)
              have hh2 : ∃ q k, hi = some q ∧ a.eval q = .int k hh := by
                rcases fd hr hhi with ⟨e1, _⟩ | h2
                · rw [e1] at hiq; cases hiq
                · exact h2
              exact Gx hD hM ho ht ev (fd hr hl) hh2 (js (hr _) hm) hc (by omega)
            · cases h
          · cases h
        · cases h
    · rename_i m e ht
      split at h
      · rename_i j base p hk
        split at h
        · rename_i hta
          split at h
          · rename_i l hh hl hhi
            have e := (Option.some.inj h).symm
            subst e
            have hkx := hr x
            rw [hk] at hkx
            exact fun hp => Hl hD hM ho ht hkx hta (fd hr hl) (fd hr hhi) (hp _ (by simp))
          · cases h
        · cases h
      · cases h
    · cases h
  ·
    rename_i c ho
    split at h
    ·
      rename_i hc
      split at h
      · rename_i x e hx ht
        split at h
        · rename_i v hv
          have e := (Option.some.inj h).symm
          subst e
          obtain ⟨t0, h0, h1⟩ := Option.bind_eq_some_iff.1 ht
          obtain ⟨n0, sp, hvo⟩ := jC hM (hr x) hv
          obtain ⟨a', hval, hle, _⟩ := hvo.val
          obtain ⟨_, _, _, hm, _⟩ := nj hvo.row.row
          exact fun _ => JP hD hM ho hc hx h0 h1 hval (by omega)
        · cases h
      · cases h
    ·
      rename_i hc
      split at h
      · rename_i x e hx ht
        split at h
        · rename_i j e0 hk
          split at h
          · rename_i e' xs0 hb
            split at h
            · rename_i xs hcast
              obtain ⟨ee, rfl⟩ := ci hcast
              cases ee
              have e := (Option.some.inj h).symm
              subst e
              obtain ⟨t0, h0, h1⟩ := Option.bind_eq_some_iff.1 ht
              have hkx := hr x
              rw [hk] at hkx
              exact NM hD hM ho hc hx h0 h1 hkx hb
            · cases h
          · cases h
        · cases h
      · cases h
    ·
      rename_i hc
      split at h
      · rename_i x y e hx ht
        split at h
        · rename_i v ys ps hv hs
          have e := (Option.some.inj h).symm
          subst e
          obtain ⟨t0, h0, h1⟩ := Option.bind_eq_some_iff.1 ht
          exact fun hp => Nc hD hM ho hc hx h0 h1 (hr x) hv (AY hM (hr y) hs (fun p hp' => hp p (List.mem_cons_of_mem _ hp'))) (hp _ (List.mem_cons_self ..))
        · split at h
          · rename_i j base p m e' lo n ys ps hk hs
            split at h
            · rename_i ee
              subst ee
              split at h
              · rename_i t z hb
                split at h
                · rename_i et
                  subst et
                  split at h
                  · rename_i old hold
                    split at h
                    · rename_i bx hup
                      have e := (Option.some.inj h).symm
                      subst e
                      obtain ⟨t0, h0, h1⟩ := Option.bind_eq_some_iff.1 ht
                      have hkx := hr x
                      rw [hk] at hkx
                      exact fun hp => Jg hD hM ho hc hx h0 h1 hkx hb hold (Kp hM (hr y) hs hp) hup
                    · cases h
                  · cases h
                · cases h
              · cases h
            · cases h
          · cases h
        · cases h
      · cases h
    ·
      rename_i hc
      split at h
      · rename_i x e hx ht
        split at h
        · rename_i v hv
          have e := (Option.some.inj h).symm
          subst e
          obtain ⟨t0, h0, h1⟩ := Option.bind_eq_some_iff.1 ht
          exact fun hp => M0 hD hM ho hc hx h0 h1 (hr x) hv (hp _ (by simp))
        · cases h
      · cases h
    ·
      rename_i hc
      split at h
      · rename_i x y t t' hx hat
        split at h
        · rename_i e ht
          split at h
          · rename_i j e0 l0 n0 v hk hv
            split at h
            · rename_i ett
              subst ett
              split at h
              · rename_i ys ps e3 xs3 hs hl
                have e := (Option.some.inj h).symm
                subst e
                exact fun hp => G7 hD hM ho hc hx (by apply Array.ext'; rw [hat]) ht (hr x) hv (AY hM (hr y) hs (fun p hp' => hp p (by simp [hp']))) (hp _ (by simp)) (hp _ (by simp))
              · cases h
            · split at h
              · rename_i ki n e3 n3 zs3 ht' hn hl
                split at h
                · rename_i hf
                  simp only [Bool.and_eq_true, decide_eq_true_eq] at hf
                  have e := (Option.some.inj h).symm
                  subst e
                  intro hp
                  obtain ⟨kq, hyv⟩ := js (hr y) hn
                  have hid : v.id = j := by
                    rw [hk] at hv
                    unfold dI at hv
                    simp only at hv
                    split at hv
                    · split at hv
                      · have e1 := (Option.some.inj hv).symm; rw [e1]
                      · cases hv
                    · cases hv
                  obtain ⟨n', hkn⟩ := zh hv
                  have hfull : ∃ n' zs, an G.b v.id = some (.full e n' zs) := by
                    rw [hid] at hkn ⊢
                    unfold g6 at hkn
                    rw [hl] at hkn
                    simp only at hkn
                    split at hkn
                    · rename_i ys hcast
                      obtain ⟨ee, _⟩ := ci hcast
                      cases ee
                      exact ⟨_, _, hl⟩
                    · cases hkn
                  exact CD hD hM ho hc hx (by apply Array.ext'; rw [hat]) ht ht' (hr x) hv hyv (hp _ (by simp)) hf.2 hfull (hp _ (by simp)) (hp _ (by simp)) (hp _ (by simp)) hf.1
                · cases h
              · cases h
          · cases h
        · cases h
      · cases h
    ·
      rename_i f hc
      split at h
      · rename_i hov
        split at h
        · rename_i x y hx
          split at h
          · rename_i e1 xs1 id2 e2 lo2 n2 hkx hky
            split at h
            · rename_i hs1
              simp only [Bool.and_eq_true, decide_eq_true_eq] at hs1
              have e := (Option.some.inj h).symm
              subst e
              obtain ⟨⟨n3, zs⟩, hkn⟩ := Option.isSome_iff_exists.1 hs1.1.2
              obtain ⟨bx, n4, zs4, hl, hrow⟩ := Nj hM hkn
              have h1 := hr x
              rw [hkx] at h1
              have h2 := hr y
              rw [hky] at h2
              obtain ⟨tS, tR, e', h3, h4⟩ := hX.ovl f hov
              exact fun _ => IS hD hM ho hc ⟨tS, tR, e', h3, h4⟩ hx h1 hs1.1.1 h2 hl (by simpa using hs1.2) hrow
            · cases h
          · cases h
        · cases h
      · split at h
        · rename_i S hS
          have hROk := hX.rows f S hS
          split at h
          · rename_i x l harg hx
            split at h
            · rename_i v y hv hy
              split at h
              · rename_i hret
                have hSok : n5 P D.G f S := hROk.resolve_right fun k => by rw [k.ret] at hret; cases hret
                split at h
                · rename_i hf
                  have e := (Option.some.inj h).symm
                  subst e
                  have hv' : dI G.b S.e (r x) = some v := by
                    generalize r x = k at hv
                    cases k <;> first | exact hv | cases hv
                  exact fun hp => JX hM hgl ho hc hSok harg hx (hr x) hv' hr hy (hp _ (by simp)) (hp _ (by simp)) hf
                · cases h
              · rename_i hret
                have hPut : qZ P D.G f S := hROk.resolve_left fun k => hret k.ret
                split at h
                · rename_i j e1 hkx
                  split at h
                  · rename_i e2 xs0 hl
                    split at h
                    · rename_i xs hcx
                      have e := (Option.some.inj h).symm
                      subst e
                      obtain ⟨e3, e4⟩ := ci hcx
                      injection e3 with e5
                      subst e5
                      have e4 : xs = xs0 := e4
                      subst e4
                      have hkx' := hr x
                      rw [hkx] at hkx'
                      exact fun hp => J3 hM hgl ho hc hPut hx hkx' (ao hl) hr hy (hp _ (by simp))
                    · cases h
                  · cases h
                · cases h
            · rename_i y _ hy
              split at h
              · cases h
              · rename_i hret
                have hPut : qZ P D.G f S := hROk.resolve_left fun k => hret k.ret
                split at h
                · rename_i hkx
                  have e := (Option.some.inj h).symm
                  subst e
                  have hkx' := hr x
                  rw [hkx] at hkx'
                  exact fun hp => JU hM hgl ho hc hPut hx hkx' hr hy (hp _ (by simp))
                · cases h
            · cases h
          · have harg : S.arg = false := by assumption
            split at h
            · rename_i y hy
              split at h
              · rename_i hf
                simp only [Bool.and_eq_true] at hf
                have hSok : n5 P D.G f S := hROk.resolve_right fun k => by have := hf.1; rw [k.ret] at this; cases this
                have e := (Option.some.inj h).symm
                subst e
                exact fun hp => ID hM hgl ho hc hSok harg hr hy (hp _ (by simp)) hf.2
              · cases h
            · cases h
          · cases h
        · split at h
          · rename_i S hS
            split at h
            · rename_i hf
              split at h
              · rename_i x hx
                have e := (Option.some.inj h).symm
                subst e
                exact fun hp => LU hD hM hgl ho hc hS hf hr hx (hp _ (by simp))
              · cases h
            · cases h
          · cases h
    · rename_i t hc
      split at h
      · split at h
        · rename_i f cap hq
          split at h
          · rename_i S hS
            split at h
            · rename_i hf
              split at h
              · rename_i x hx
                have e := (Option.some.inj h).symm
                subst e
                have hkq := hr (.tmp t)
                rw [hq] at hkq
                exact fun hp => Nr hD hM hgl ho hc hkq hS hf hr hx (hp _ (by simp))
              · cases h
            · cases h
          · cases h
        · cases h
      · cases h
    · cases h
  · cases h
theorem Hi (hX : cQ P D) (hh : eR D = true) (hM : MemOk P G w) (hgl : GlobOk P D.G G.av w) {r : Operand → K} (hr : ∀ x, KV P G w tm (r x) (a.eval x)) {id : Nat} {k : K} {ch : Chg} {ps : List Prop} (h : cU D o r G.b id = some (k, ch, ps)) (hp : ∀ p ∈ ps, p) : aj P o a G w tm k ch := by
 unfold cU at h
 split at h
 ·rename_i q hv
  have e := Option.some.inj h
  subst e
  exact II hX.toDOk hh hM hgl hr hv hp
 ·split at h
  ·split at h
   ·rename_i k' ch' ps' hv
    simp only [Option.some.injEq, Prod.mk.injEq] at h
    obtain ⟨rfl, rfl, rfl⟩ := h
    exact ug hX hM hgl hr hv hp
   ·cases h
  ·cases h
end
end Go.Proofs.Ytimdnodkabnbfaa
namespace Go.Proofs.Ytimdnodkabnbfaa
open Go Go.RowKit
section
variable {P : Program} {G : Gst} {w : World}
theorem KV.tm {tm tm' : Nat → Value} {k : K} {v : Value} (h : nog k = true) (hk : KV P G w tm k v) : KV P G w tm' k v := by
 induction k generalizing v with
 | grd s c cs k => cases h
 | opt cs k => cases h
 | kcons a b iha ihb =>
  simp only [nog, Bool.and_eq_true] at h
  obtain ⟨x, xs, e, h1, h2⟩ := hk
  exact ⟨x, xs, e, iha h.1 h1, ihb h.2 h2⟩
 | agg b c ih => obtain ⟨vs, h1, h2⟩ := hk; exact ⟨vs, ih h h1, h2⟩
 | clo f c ih => obtain ⟨vs, h1, h2⟩ := hk; exact ⟨vs, ih h h1, h2⟩
 | sel c a b iha ihb =>
  simp only [nog, Bool.and_eq_true] at h
  exact ⟨fun hc => iha h.1 (hk.1 hc), fun hc => ihb h.2 (hk.2 hc)⟩
 | ifc t k ih => obtain ⟨u, e, h1⟩ := hk; exact ⟨u, e, ih h h1⟩
 | _ => exact hk
end
section
variable {P : Program} {D : aJ} {o : Oper} {a : Act} {G : Gst} {w : World} {tm : Nat → Value}
def iB (t : Ty) (v : Value) : Prop := v.cells.size = siz t ∧ (∀ u ∈ v.cells.toList, u.oneCell' = true) ∧ (isAgg t = true → ∃ cs, v = .agg cs) ∧ (isAgg t = false → v.oneCell' = true)
theorem nf {v : Value} (h : v.oneCell' = true) : v.cells = #[v] := by cases v <;> first | rfl | (simp [Value.oneCell'] at h)
theorem vP {t : Ty} (h1 : isAgg t = false → siz t = 1) {O : Nat → Prop} {v : Value} {x : den t} (h : aB P t O w v x) : iB t v := by
 obtain ⟨cs, rfl, hr⟩ := h
 have hc := bJ hr.length h1 hr.oneCell
 refine ⟨by rw [hc]; exact hr.length, by rw [hc]; exact hr.oneCell, fun ha => ⟨cs.toArray, by unfold az; rw [if_pos ha]⟩, fun ha => ?_⟩
 unfold az
 rw [if_neg (by rw [ha]; simp)]
 match cs, hr.length.trans (h1 ha), hr.oneCell with
 | [c], _, h => exact h c (by simp)
theorem iW {t : Ty} {v : Value} (ht : isAgg t = false) (hs : siz t = 1) (h : v.oneCell' = true) : iB t v := by
 have hc := nf h
 exact ⟨by rw [hc, hs]; rfl, (by rw [hc]; intro u hu; simp at hu; rw [hu]; exact h), fun h' => (by rw [ht] at h'; cases h'), fun _ => h⟩
theorem ru : ∀ {b : Ty} {vs : List Value}, sa b vs → (vs.flatMap fun u => u.cells.toList).length = siz b ∧ ∀ u ∈ vs.flatMap fun u => u.cells.toList, u.oneCell' = true := by
 intro b
 induction b with
 | unit => intro vs h; have h : vs = [] := h; subst h; exact ⟨rfl, by simp⟩
 | pair a b _ ihb =>
  intro vs h
  obtain ⟨v, rest, rfl, h1, h2, _, _, h5⟩ := h
  obtain ⟨k1, k2⟩ := ihb h5
  refine ⟨by simp only [List.flatMap_cons, List.length_append, k1, Array.length_toList, h1, siz], fun u hu => ?_⟩
  rw [List.flatMap_cons, List.mem_append] at hu
  exact hu.elim (h2 u) (k2 u)
 | _ => intro vs h; exact h.elim
theorem Aw {t : Ty} {k : K} {v : Value} (hk : KV P G w tm k v) (h : EQ t k = true) (h1 : isAgg t = false → siz t = 1) : iB t v := by
 unfold EQ at h
 split at h
 ·rename_i t' x
  have e : t' = t := of_decide_eq_true h
  subst e
  exact vP h1 hk
 ·split at h <;> first | (cases h; done) | (have hk : v = .slice none 0 0 := hk; subst hk; exact iW rfl rfl rfl)
 ·split at h <;> first | (cases h; done) | (obtain ⟨_, aa, n, rfl⟩ := hk; exact iW rfl rfl rfl)
 ·split at h <;> first | (cases h; done) | (obtain ⟨_, _, _, _, _, _, _, rfl, _⟩ := hk; exact iW rfl rfl rfl)
 ·split at h <;> first | (cases h; done) | (obtain ⟨_, g, _, rfl⟩ := hk; exact iW rfl rfl rfl)
 ·split at h <;> first | (cases h; done) | (have hk : v = .map none := hk; subst hk; exact iW rfl rfl rfl)
 ·rename_i b c
  have e : t = .st b := of_decide_eq_true h
  subst e
  obtain ⟨vs, _, hl, rfl⟩ := hk
  obtain ⟨k1, k2⟩ := ru hl
  exact ⟨by show (vs.flatMap fun u => u.cells.toList).toArray.size = siz b; rw [List.size_toArray]; exact k1, k2, fun _ => ⟨_, rfl⟩, fun h' => by cases h'⟩
 ·cases h
theorem FV (hM : MemOk P G w) {t : Ty} {k : K} {v : Value} (hk : KV P G w tm k v) (h : jc G.b t k = true) (h1 : isAgg t = false → siz t = 1) : iB t v := by
 unfold jc at h
 split at h
 ·rename_i id e
  rw [Bool.and_eq_true] at h
  obtain ⟨h2, h3⟩ := h
  split at h2
  ·obtain ⟨_, rfl⟩ := hk
   split at h3
   ·rename_i e' xs hl
    obtain ⟨a0, c, hh, _⟩ := BC hM (ao hl)
    rw [hh]; exact iW rfl rfl rfl
   ·rename_i e' n zs hl
    obtain ⟨a0, hh, _⟩ := nj (hM.box id _ (ao hl))
    rw [hh]; exact iW rfl rfl rfl
   ·cases h3
  ·cases h2
 ·exact Aw hk h h1
theorem GI : ∀ {b u : Ty} {i : Nat} {vs : List Value}, sa b vs → cN b i = some u → ∃ v, vs[i]? = some v ∧ iB u v ∧ bz b i + siz u ≤ siz b ∧
    ((vs.flatMap fun u => u.cells.toList).drop (bz b i)).take (siz u) = v.cells.toList := by
  intro b
  induction b with
  | pair a b _ ihb =>
    intro u i vs h hu
    obtain ⟨v, rest, rfl, h1, h2, h3, h4, h5⟩ := h
    cases i with
    | zero =>
      have e : a = u := Option.some.inj hu
      subst e
      refine ⟨v, rfl, ⟨h1, h2, h3, h4⟩, by simp [bz, siz], ?_⟩
      show ((v.cells.toList ++ _).drop 0).take (siz a) = _
      rw [List.drop_zero, ← h1, ← Array.length_toList, List.take_left']
      rfl
    | succ i =>
      obtain ⟨v', e1, e2, e3, e4⟩ := ihb (vs := rest) h5 hu
      refine ⟨v', e1, e2, by simp only [bz, siz]; omega, ?_⟩
      rw [show bz (.pair a b) (i + 1) = siz a + bz b i from rfl, List.flatMap_cons, ← e4, ← h1, ← Array.length_toList, List.drop_length_add_append]
  | _ => intro u i vs h hu; cases hu
theorem Io {c : K} {i : Nat} {vs : List Value} {v : Value} (h : KV P G w tm c (.tuple vs.toArray)) (hv : vs[i]? = some v) : KV P G w tm (sb c i) v := (zm h).1 v hv
theorem Mh : ∀ {p : List Sel} {t u : Ty} {k k' : K} {v : Value}, KV P G w tm k v → iB t v → c7 t p = some u → pok t p → (isAgg u = false → siz u = 1) → A8 t k p = some k' →
    ∃ v', KV P G w tm k' v' ∧ iB u v' ∧ aH t p + siz u ≤ siz t ∧ (v.cells.toList.drop (aH t p)).take (siz u) = v'.cells.toList := by
  intro p
  induction p with
  | nil =>
    intro t u k k' v hk ho ht hp h1 h
    have e : t = u := by cases t <;> exact Option.some.inj ht
    subst e
    have e : k = k' := by cases t <;> cases k <;> exact Option.some.inj h
    subst e
    have e0 : aH t [] = 0 := by cases t <;> rfl
    exact ⟨v, hk, ho, by rw [e0]; omega, by rw [e0, List.drop_zero, List.take_of_length_le (by rw [Array.length_toList, ho.1]; omega)]⟩
  | cons s p ih =>
    intro t u k k' v hk ho ht hp h1 h
    unfold A8 at h
    split at h
    · rename_i hd; cases hd
    · rename_i b' b c i q hs
      injection hs with hs1 hs2
      subst hs1 hs2
      split at h
      · rename_i e
        subst e
        split at h
        · rename_i u1 hu1
          obtain ⟨vs, hc, hl, rfl⟩ := hk
          obtain ⟨vi, e1, e2, e3, e4⟩ := GI hl hu1
          have ht' : c7 u1 p = some u := by have ht : (match cN b' i with | some t => c7 t p | none => none) = some u := ht; rw [hu1] at ht; exact ht
          have hp' : pok u1 p := by have hp : (match cN b' i with | some t => pok t p | none => False) := hp; rw [hu1] at hp; exact hp
          obtain ⟨v', f1, f2, f3, f4⟩ := ih (Io hc e1) e2 ht' hp' h1 h
          have eo : aH (.st b') (.fld i :: p) = bz b' i + aH u1 p := by show bz b' i + (match cN b' i with | some t => aH t p | none => 0) = _; rw [hu1]
          refine ⟨v', f1, f2, by rw [eo]; show _ ≤ siz b'; omega, ?_⟩
          rw [eo, ← f4, ← e4]
          show ((vs.flatMap fun u => u.cells.toList).drop _).take _ = _
          apply List.ext_getElem?
          intro j
          simp only [List.getElem?_take, List.getElem?_drop]
          by_cases hj : j < siz u
          · rw [if_pos hj, if_pos hj, if_pos (by omega), Nat.add_assoc]
          · rw [if_neg hj, if_neg hj]
        · cases h
      · cases h
    · rename_i t0 t' x s' q hs
      injection hs with hs1 hs2
      subst hs1 hs2
      split at h
      · rename_i e
        subst e
        rw [ht] at h
        simp only at h
        split at h
        · rename_i y hy
          have e := (Option.some.inj h).symm
          subst e
          obtain ⟨cs, rfl, hr⟩ := hk
          obtain ⟨hle, hr'⟩ := rv ht hp hr hy
          have ha : isAgg t' = false → siz t' = 1 := fun h => by
            have := ho.2.2.2 h
            have hc := nf this
            have := ho.1
            rw [hc] at this
            exact this.symm
          have hcl := bJ hr.length ha hr.oneCell
          have hcl' := bJ hr'.length h1 hr'.oneCell
          refine ⟨az u _, ⟨_, rfl, hr'⟩, vP h1 ⟨_, rfl, hr'⟩, hle, ?_⟩
          rw [hcl, hcl']
        · cases h
      · cases h
    · cases h
theorem zn : ∀ {c c' : K} {i : Nat} {vs : List Value} {k : K} {v : Value}, KV P G w tm c (.tuple vs.toArray) → KV P G w tm k v → pf c i k = some c' → KV P G w tm c' (.tuple (vs.set i v).toArray) := by
 intro c
 induction c with
 | kcons p q _ ihq =>
  intro c' i vs k v h hk hs
  obtain ⟨x, xs, e, h1, h2⟩ := h
  have e : vs = x :: xs := by injection e with e; simpa using congrArg Array.toList e
  subst e
  cases i with
  | zero =>
   have e := (Option.some.inj hs).symm
   subst e
   exact ⟨v, xs, rfl, hk, h2⟩
  | succ i =>
   have hs : (match pf q i k with | some b' => some (.kcons p b') | none => none) = some c' := hs
   split at hs
   ·rename_i b' hb
    have e := (Option.some.inj hs).symm
    subst e
    exact ⟨x, xs.set i v, rfl, h1, ihq h2 hk hb⟩
   ·cases hs
 | _ => intro c' i vs k v h hk hs; cases i <;> cases hs
theorem Gs : ∀ {b u : Ty} {i : Nat} {vs : List Value} {v : Value}, sa b vs → cN b i = some u → iB u v → sa b (vs.set i v) ∧
    (vs.set i v).flatMap (fun u => u.cells.toList) = ar (vs.flatMap fun u => u.cells.toList) (bz b i) v.cells.toList := by
  intro b
  induction b with
  | pair a b _ ihb =>
    intro u i vs v h hu hv
    obtain ⟨v0, rest, rfl, h1, h2, h3, h4, h5⟩ := h
    cases i with
    | zero =>
      have e : a = u := Option.some.inj hu
      subst e
      refine ⟨⟨v, rest, rfl, hv.1, hv.2.1, hv.2.2.1, hv.2.2.2, h5⟩, ?_⟩
      unfold ar
      show v.cells.toList ++ _ = [] ++ v.cells.toList ++ (v0.cells.toList ++ _).drop (0 + v.cells.toList.length)
      rw [Nat.zero_add, Array.length_toList, hv.1, ← h1, ← Array.length_toList, List.drop_left' rfl]; rfl
    | succ i =>
      obtain ⟨k1, k2⟩ := ihb (vs := rest) h5 hu hv
      refine ⟨⟨v0, _, rfl, h1, h2, h3, h4, k1⟩, ?_⟩
      rw [List.set_cons_succ, List.flatMap_cons, List.flatMap_cons, k2, show bz (.pair a b) (i + 1) = siz a + bz b i from rfl]
      unfold ar
      rw [← h1, ← Array.length_toList, List.take_length_add_append, Nat.add_assoc, List.drop_length_add_append]
      simp only [List.append_assoc]
  | _ => intro u i vs v h hu; cases hu
theorem Mj (hM : MemOk P G w) {kn : K} {vn : Value} (hkn : KV P G w tm kn vn) {u : Ty} (hu : iB u vn) (h1 : isAgg u = false → siz u = 1) : ∀ {p : List Sel} {t : Ty} {k k' : K} {v : Value}, KV P G w tm k v → iB t v → c7 t p = some u → pok t p → lY G.b t k p kn = some k' →
    ∃ v', KV P G w tm k' v' ∧ iB t v' ∧ aH t p + siz u ≤ siz t ∧ v'.cells.toList = ar v.cells.toList (aH t p) vn.cells.toList := by
  intro p
  induction p with
  | nil =>
    intro t k k' v hk ho ht hp h
    have e : t = u := by cases t <;> exact Option.some.inj ht
    subst e
    have h : (if jc G.b t kn then some kn else none) = some k' := by cases t <;> cases k <;> exact h
    split at h
    · have e := (Option.some.inj h).symm
      subst e
      have e0 : aH t [] = 0 := by cases t <;> rfl
      refine ⟨vn, hkn, hu, by rw [e0]; omega, ?_⟩
      rw [e0]
      unfold ar
      rw [List.take_zero, List.nil_append, Nat.zero_add, List.drop_of_length_le (by rw [Array.length_toList, Array.length_toList, ho.1, hu.1]; omega), List.append_nil]
    · cases h
  | cons s p ih =>
    intro t k k' v hk ho ht hp h
    unfold lY at h
    split at h
    · rename_i hd; cases hd
    · rename_i b' b c i q hs
      injection hs with hs1 hs2
      subst hs1 hs2
      split at h
      · rename_i e
        subst e
        split at h
        · rename_i u1 hu1
          split at h
          · rename_i k1 hk1
            split at h
            · rename_i c' hc'
              have e := (Option.some.inj h).symm
              subst e
              obtain ⟨vs, hc, hl, rfl⟩ := hk
              obtain ⟨vi, e1, e2, e3, e4⟩ := GI hl hu1
              have ht' : c7 u1 p = some u := by have ht : (match cN b' i with | some t => c7 t p | none => none) = some u := ht; rw [hu1] at ht; exact ht
              have hp' : pok u1 p := by have hp : (match cN b' i with | some t => pok t p | none => False) := hp; rw [hu1] at hp; exact hp
              obtain ⟨v1, f1, f2, f3, f4⟩ := ih (Io hc e1) e2 ht' hp' hk1
              have eo : aH (.st b') (.fld i :: p) = bz b' i + aH u1 p := by show bz b' i + (match cN b' i with | some t => aH t p | none => 0) = _; rw [hu1]
              obtain ⟨g1, g2⟩ := Gs hl hu1 f2
              obtain ⟨g3, g4⟩ := ru g1
              have hlen := (ru hl).1
              refine ⟨.agg ((vs.set i v1).flatMap fun u => u.cells.toList).toArray, ⟨_, zn hc f1 hc', g1, rfl⟩, ⟨by show ((vs.set i v1).flatMap fun u => u.cells.toList).toArray.size = siz b'; rw [List.size_toArray]; exact g3, (by show ∀ u ∈ (vs.set i v1).flatMap (fun u => u.cells.toList), u.oneCell' = true; exact g4), fun _ => ⟨_, rfl⟩, fun h => (by cases h)⟩, by rw [eo]; show _ ≤ siz b'; omega, ?_⟩
              show (vs.set i v1).flatMap (fun u => u.cells.toList) = ar (vs.flatMap fun u => u.cells.toList) _ _
              rw [g2, f4, eo, ← e4]
              have hvn : vn.cells.toList.length = siz u := by rw [Array.length_toList]; exact hu.1
              have hvi : (((vs.flatMap fun u => u.cells.toList).drop (bz b' i)).take (siz u1)).length = siz u1 := by rw [e4, Array.length_toList]; exact e2.1
              exact j5 (by rw [hvi, hvn]; exact f3) (by rw [hvi, hlen]; exact e3) (by rw [hvi])
            · cases h
          · cases h
        · cases h
      · cases h
    · rename_i t0 t' x s' q hs
      injection hs with hs1 hs2
      subst hs1 hs2
      split at h
      · rename_i e
        subst e
        split at h
        · rename_i z hz
          have e := (Option.some.inj h).symm
          subst e
          obtain ⟨cs, rfl, hr⟩ := hk
          have ha : isAgg t' = false → siz t' = 1 := fun h => by
            have := ho.2.2.2 h
            have hc := nf this
            have := ho.1
            rw [hc] at this
            exact this.symm
          have hcl := bJ hr.length ha hr.oneCell
          have hv : ∀ {kq : K}, KV P G w tm kq vn → ∀ y, bo u kq = some y → Rep P u .cells G.av w vn.cells.toList y := fun {kq} hkq y hy => by
            obtain ⟨cs0, rfl, hr0⟩ := cp hkq hy
            rw [bJ hr0.length h1 hr0.oneCell]
            exact hr0
          obtain ⟨hle, hr'⟩ := rp (hv hkn) ht hp hr hz
          have hcl' := bJ hr'.length ha hr'.oneCell
          refine ⟨az t' _, ⟨_, rfl, hr'⟩, vP ha ⟨_, rfl, hr'⟩, hle, ?_⟩
          rw [hcl, hcl']
        · cases h
      · cases h
    · cases h
end
end Go.Proofs.Ytimdnodkabnbfaa
namespace Go.Proofs.Ytimdnodkabnbfaa
open Go Go.RowKit
section
variable {P : Program} {D : aJ} {o : Oper} {a : Act} {G : Gst} {w : World} {tm : Nat → Value}
theorem JH (hD : DOk P D) {t : TypeId} {e : Ty} (ht : D.ty t = some (.slc e)) {kl kc : IntKind} {n : Int} (h0 : 0 ≤ n) (hn : n.toNat * siz e ≤ 16777216) :
    ∃ cs eid, cs.size = n.toNat * siz e ∧ RepAll (Rep P e .cells G.av w) (siz e) cs.toList (List.replicate n.toNat (zero e)) ∧ (Instr.makeSlice t (.int kl n) (.int kc n)).run P w = .ok (.slice (some ⟨w.heap.size, 0, none⟩) n.toNat n.toNat) (w.alloc (.cells cs eid)) := by
  have hfit := hD.fit ht
  obtain ⟨ei, hun, hte, hse⟩ := aV hfit.shape
  have hpl : plain e = true := hfit.plain
  obtain ⟨z1, z2⟩ := AK (P := P) (G := G) (w := w) hpl n.toNat
  have hfe := hD.fit hte
  have h1 := eI hfe
  obtain ⟨i, z, hi, hs, hb, hz, ez⟩ := hfe.info
  have hzl := bq e
  have hzc : z.cells = (aO e).toArray := by rw [ez]; exact bJ (bq e) h1 (eC P G.av w e hpl).oneCell
  have hcells : madeCells z.cells (n.toNat * i.size) = (List.replicate n.toNat (aO e)).flatten.toArray := by
    unfold madeCells
    rw [hzc, hs]
    apply Array.ext'
    rw [← vZ n.toNat, hzl]
    by_cases h0 : n.toNat * siz e = 0
    · simp [h0]
    · simp [h0, hzl]
  have hnn : n.toNat ≤ 16777216 := by
    have : n.toNat * 1 ≤ n.toNat * siz e := Nat.mul_le_mul_left _ hse
    omega
  have hn2 : n ≤ 16777216 := by omega
  have hbb : (i.bytes : Int) * n ≤ 281474976710656 := by
    have h1 : (i.bytes : Int) * n ≤ 65536 * n := Int.mul_le_mul_of_nonneg_right (by omega) h0
    omega
  refine ⟨_, ei, ?_, z2, by rw [run_make w t ei i z hun hi hz kl kc n n h0 (Int.le_refl _) hbb (by omega), hcells]⟩
  rw [List.size_toArray, z1, List.length_replicate]
theorem JA (hD : DOk P D) (hM : MemOk P G w) {t : TypeId} {l c : Operand} (ho : o.op = .makeSlice t l c) {e : Ty} (ht : D.ty t = some (.slc e)) {kl kc : IntKind} {n : Int} (hl : a.eval l = .int kl n) (hc : a.eval c = .int kc n) (h0 : 0 ≤ n) (hn : n.toNat * siz e ≤ 16777216) :
    aj P o a G w tm (.val (.slc e) (List.replicate n.toNat (zero e))) [] := by
  obtain ⟨cs, eid, hs, hR, hrun⟩ := JH (G := G) (w := w) hD ht (kl := kl) (kc := kc) h0 hn
  have hk := Kept.alloc w (.cells cs eid)
  obtain ⟨hM', hE⟩ := hM.kept_on hk
  have hlat := hE.lat
  obtain ⟨_, _, _, hse⟩ := aV (hD.fit ht).shape
  have hnm : n.toNat ≤ maxLen := by
    have : n.toNat * 1 ≤ n.toNat * siz e := Nat.mul_le_mul_left _ hse
    unfold maxLen
    omega
  have hll : (List.replicate n.toNat (zero e)).length = n.toNat := List.length_replicate
  refine bl (v := .slice (some ⟨w.heap.size, 0, none⟩) n.toNat n.toNat) (w' := w.alloc (.cells cs eid)) (G' := G) ?_ rfl hE hM' ?_
  · simp only [execOp, ho, hl, hc, Sem.run_bind, hrun, Result.andThen_ok, Sem.run_pure]
  · refine ⟨[.slice (some ⟨w.heap.size, 0, none⟩) n.toNat n.toNat], rfl, some ⟨w.heap.size, 0, none⟩, n.toNat, cs.toList, by rw [hll], by rw [hll]; exact Nat.le_refl _, hnm, by rw [hll, Array.length_toList, hs], hR.imp fun _ _ q => q.lat hlat, fun _ => ⟨_, rfl, fun h => ?_, by simp, fun j u hj => ?_⟩, fun h => by cases h⟩
    · exact absurd (pC hM h) (Nat.lt_irrefl _)
    · rw [cL, Nat.zero_add, cell_of_row _ w.heap.size j cs eid (0, 0) (iS w _)]
      simpa using hj
theorem IA (hD : DOk P D) (hM : MemOk P G w) {t : TypeId} {l c : Operand} (ho : o.op = .makeSlice t l c) {e : Ty} (ht : D.ty t = some (.slc e)) {kl kc : IntKind} {n : Int} (hl : a.eval l = .int kl n) (hc : a.eval c = .int kc n) (h0 : 0 ≤ n) (hn : n.toNat * siz e ≤ 16777216) {id : Nat} (hf : aR G.b id = true) :
    aj P o a G w tm (.sl id e) [(id, .live (.row e (List.replicate n.toNat (zero e))))] := by
  obtain ⟨cs, eid, hs, hR, hrun⟩ := JH (G := G) (w := w) hD ht (kl := kl) (kc := kc) h0 hn
  have hk := Kept.alloc w (.cells cs eid)
  obtain ⟨_, _, _, hse⟩ := aV (hD.fit ht).shape
  have hnm : n.toNat ≤ maxLen := by
    have : n.toNat * 1 ≤ n.toNat * siz e := Nat.mul_le_mul_left _ hse
    unfold maxLen
    omega
  have hll : (List.replicate n.toNat (zero e)).length = n.toNat := List.length_replicate
  have hadd := hM.add (P := P) hk (id := id) (g := w.heap.size) (h := .slice (some ⟨w.heap.size, 0, none⟩) n.toNat n.toNat) (x := .row e (List.replicate n.toNat (zero e))) (bL hf) (Nat.le_refl _) (fun G' hE hh hb _ =>
    .inr ⟨w.heap.size, cs, eid, 0, [], hb, by rw [hh, List.append_nil, hll], by unfold Gst.nb; rw [hE.w0]; exact .inl hM.kept.size, .of (iS w _), by rw [List.append_nil, hll]; exact hnm, by rw [List.append_nil, hll, hs]; omega, by
      rw [List.append_nil, List.drop_zero, hll, ← hs, ← Array.length_toList, List.take_length]
      exact hR.imp fun _ _ q => q.lat hE.lat⟩)
  refine bl (v := .slice (some ⟨w.heap.size, 0, none⟩) n.toNat n.toNat) ?_ rfl hadd.2 hadd.1 ⟨⟨.row e (List.replicate n.toNat (zero e)), .inl (by simp [Gst.add])⟩, by simp [Gst.add]⟩
  simp only [execOp, ho, hl, hc, Sem.run_bind, hrun, Result.andThen_ok, Sem.run_pure]
theorem ka (s : ByteArray) : (dD s).length = s.size := by
 unfold dD
 rw [List.length_map, Array.length_toList]
 rfl
theorem D1 (s : ByteArray) {cap : Nat} (hc : s.size ≤ cap) : (bytesRow s cap).size = cap ∧ (bytesRow s cap).toList = (dD s ++ List.replicate (cap - s.size) (0 : Int)).map (Value.int .u8) := by
 have h1 : (bytesRow s cap).toList = (dD s ++ List.replicate (cap - s.size) (0 : Int)).map (Value.int .u8) := by
  simp [bytesRow, dD]
 refine ⟨?_, h1⟩
 rw [← Array.length_toList, h1]
 simp [ka]
 omega
theorem Az {k : IntKind} {O : Nat → Prop} : ∀ (xs : List Int), (∀ x ∈ xs, InK k x) → RepAll (fun cs x => Rep P (.int k) .cells O w cs x) 1 (xs.map (Value.int k)) xs
 | [], _ => rfl
 | x :: xs, h => ⟨⟨rfl, h x (List.mem_cons_self ..)⟩, Az xs fun y hy => h y (List.mem_cons_of_mem _ hy)⟩
theorem DI (s : ByteArray) : ∀ x ∈ dD s, InK .u8 x := by
 intro x hx
 obtain ⟨b, _, rfl⟩ := List.mem_map.1 hx
 have := b.toNat_lt
 have e1 : IntKind.u8.min = 0 := rfl
 have e2 : IntKind.u8.max = 255 := rfl
 exact ⟨by omega, by omega⟩
theorem GN (hD : DOk P D) (hM : MemOk P G w) {src dst : TypeId} {x : Operand} (ho : o.op = .convert src dst x) (hs : D.ty src = some .str) (ht : D.ty dst = some (.slc (.int .u8))) {s : ByteArray} (hx : KV P G w tm (.val .str s) (a.eval x)) (hm : s.size ≤ bY) :
    aj P o a G w tm (.val (.slc (.int .u8)) (dD s)) [] := by
  obtain ⟨ei, hu, hte, _⟩ := aV (hD.fit ht).shape
  have he := fk (hD.fit hte).shape
  have hd := fX (hD.fit hs).shape
  obtain ⟨cs, ev, rfl, _⟩ := hx
  have ev : a.eval x = .string s := ev
  have hml : s.size ≤ maxLen := by unfold bY at hm; unfold maxLen; omega
  have hc : s.size ≤ grownCap w s.size 0 ei := grownCap_ge w s.size 0 ei
  have hcm : grownCap w s.size 0 ei ≤ maxLen := grownCap_le_maxLen w s.size 0 ei (by unfold bY at hm; omega)
  obtain ⟨b1, b2⟩ := D1 s hc
  have hrun := run_bytes_of_string w src dst ei s hd hu he
  have hk : Kept w (w.drew.alloc (.cells (bytesRow s (grownCap w s.size 0 ei)) ei ((bytesRow s (grownCap w s.size 0 ei)).size, (bytesRow s (grownCap w s.size 0 ei)).size + 1))) := (Kept.drew w).trans (Kept.alloc w.drew _)
  obtain ⟨hM', hE⟩ := hM.kept_on hk
  refine bl (v := .slice (some ⟨w.heap.size, 0, none⟩) s.size (grownCap w s.size 0 ei)) (w' := w.drew.alloc (.cells (bytesRow s (grownCap w s.size 0 ei)) ei ((bytesRow s (grownCap w s.size 0 ei)).size, (bytesRow s (grownCap w s.size 0 ei)).size + 1))) (G' := G) (by simp only [execOp, ho, ev, Sem.run_bind, hrun, Result.andThen_ok, Sem.run_pure]) rfl hE hM' ?_
  refine ⟨[.slice (some ⟨w.heap.size, 0, none⟩) s.size (grownCap w s.size 0 ei)], rfl, some ⟨w.heap.size, 0, none⟩, grownCap w s.size 0 ei, (dD s).map (Value.int .u8), by rw [ka], by rw [ka]; exact hc, hcm, by rw [List.length_map]; show _ = _ * 1; omega, Az _ (DI s), fun _ => ⟨_, rfl, fun h => absurd (pC hM h) (Nat.lt_irrefl _), by simp, fun j u hj => ?_⟩, fun h => by cases h⟩
  rw [cL, Nat.zero_add, cell_of_row _ w.heap.size j _ ei _ (heap_alloc_new w.drew _), ← Array.getElem?_toList, b2, List.map_append, List.getElem?_append_left (List.getElem?_eq_some_iff.1 hj).1]
  exact hj
theorem G2 (hD : DOk P D) (hM : MemOk P G w) {src dst : TypeId} {x : Operand} (ho : o.op = .convert src dst x) (hs : D.ty src = some .str) (ht : D.ty dst = some (.slc (.int .u8))) {s : ByteArray} (hx : KV P G w tm (.val .str s) (a.eval x)) (hm : s.size ≤ bY) {id : Nat} (hf : aR G.b id = true) :
    aj P o a G w tm (.sl id (.int .u8)) [(id, .live (.row (.int .u8) (dD s)))] := by
  obtain ⟨ei, hu, hte, _⟩ := aV (hD.fit ht).shape
  have he := fk (hD.fit hte).shape
  have hd := fX (hD.fit hs).shape
  obtain ⟨cs, ev, rfl, _⟩ := hx
  have ev : a.eval x = .string s := ev
  have hc : s.size ≤ grownCap w s.size 0 ei := grownCap_ge w s.size 0 ei
  have hcm : grownCap w s.size 0 ei ≤ maxLen := grownCap_le_maxLen w s.size 0 ei (by unfold bY at hm; omega)
  obtain ⟨b1, b2⟩ := D1 s hc
  have hrun := run_bytes_of_string w src dst ei s hd hu he
  have hk : Kept w (w.drew.alloc (.cells (bytesRow s (grownCap w s.size 0 ei)) ei ((bytesRow s (grownCap w s.size 0 ei)).size, (bytesRow s (grownCap w s.size 0 ei)).size + 1))) := (Kept.drew w).trans (Kept.alloc w.drew _)
  have hall : (dD s ++ List.replicate (grownCap w s.size 0 ei - s.size) (0 : Int)).length = grownCap w s.size 0 ei := by rw [List.length_append, List.length_replicate, ka]; omega
  have hadd := hM.add (P := P) hk (id := id) (g := w.heap.size) (h := .slice (some ⟨w.heap.size, 0, none⟩) s.size (grownCap w s.size 0 ei)) (x := .row (.int .u8) (dD s)) (bL hf) (Nat.le_refl _) (fun G' hE hh hb _ =>
    .inr ⟨w.heap.size, _, ei, 0, List.replicate (grownCap w s.size 0 ei - s.size) (0 : Int), hb, by rw [hh, ka]; congr 1; exact hall.symm, by unfold Gst.nb; rw [hE.w0]; exact .inl hM.kept.size, ⟨_, heap_alloc_new w.drew _, .inr ⟨rfl, Nat.le_refl _⟩⟩, by
      show (dD s ++ List.replicate (grownCap w s.size 0 ei - s.size) (0 : Int)).length ≤ _
      rw [hall]; exact hcm, by
      show 0 + (dD s ++ List.replicate (grownCap w s.size 0 ei - s.size) (0 : Int)).length * 1 ≤ _
      rw [hall, b1]; omega, by
      show RepAll _ 1 (((bytesRow s (grownCap w s.size 0 ei)).toList.drop 0).take ((dD s ++ List.replicate (grownCap w s.size 0 ei - s.size) (0 : Int)).length * 1)) (dD s ++ List.replicate (grownCap w s.size 0 ei - s.size) (0 : Int))
      rw [List.drop_zero, b2, List.take_of_length_le (by rw [List.length_map]; omega)]
      refine Az _ fun y hy => ?_
      rcases List.mem_append.1 hy with h | h
      · exact DI s y h
      · rw [(List.mem_replicate.1 h).2]; exact oN _⟩)
  exact bl (v := .slice (some ⟨w.heap.size, 0, none⟩) s.size (grownCap w s.size 0 ei)) (w' := w.drew.alloc (.cells (bytesRow s (grownCap w s.size 0 ei)) ei ((bytesRow s (grownCap w s.size 0 ei)).size, (bytesRow s (grownCap w s.size 0 ei)).size + 1))) (by simp only [execOp, ho, ev, Sem.run_bind, hrun, Result.andThen_ok, Sem.run_pure]) rfl hadd.2 hadd.1 ⟨⟨.row (.int .u8) (dD s), .inl (by simp [Gst.add])⟩, by simp [Gst.add]⟩
theorem KY (hD : DOk P D) (hM : MemOk P G w) {src dst : TypeId} {x : Operand} (ho : o.op = .convert src dst x) (hs : D.ty src = some (.slc (.int .u8))) (ht : D.ty dst = some .str) {j : Nat} {e' : Ty} (hx : KV P G w tm (.sl j e') (a.eval x)) {xs : List Int} (hl : an G.b j = some (.row (.int .u8) xs)) :
    aj P o a G w tm (.val .str (gG xs)) [] := by
  obtain ⟨ei, hu, hte, _⟩ := aV (hD.fit hs).shape
  have he := fk (hD.fit hte).shape
  have hd := fX (hD.fit ht).shape
  obtain ⟨_, ev⟩ := hx
  have hb := lL hM (ao hl)
  rw [← ev] at hb
  obtain ⟨cs, ev, a0, c, L, rfl, h2, h3, h4, h5, h6, h7⟩ := hb
  have ev : a.eval x = .slice a0 xs.length c := ev
  refine aA hM (v := .string (gG xs)) ?_ ⟨[.string (gG xs)], rfl, rfl, by rw [yl]; exact Nat.le_trans h2 h3⟩
  simp only [execOp, ho, ev, Sem.run_bind, BF hu he hd h5 (fun h => by obtain ⟨ad, e, _, _, q⟩ := h6 h; exact ⟨ad, e, q⟩), Result.andThen_ok, Sem.run_pure]
end
end Go.Proofs.Ytimdnodkabnbfaa
namespace Go.Proofs.Ytimdnodkabnbfaa
open Go Go.RowKit
open Go.ChangeMaps (setBlock)
open Go.MapKept (Stamped IsKey)
section
variable {P : Program} {D : aJ} {o : Oper} {a : Act} {G : Gst} {w : World} {tm : Nat → Value}
theorem HM {u : Ty} {v : Value} (h : iB u v) : az u v.cells.toList = v := by
 unfold az
 cases ha : isAgg u
 ·rw [if_neg (by simp), nf (h.2.2.2 ha)]; rfl
 ·obtain ⟨cs, rfl⟩ := h.2.2.1 ha
  rw [if_pos rfl]; rfl
theorem Nt : ∀ t : Ty, nog (kZ t) = true := by
  intro t
  induction t with
  | pair a b iha ihb => simp only [kZ, nog, iha, ihb, Bool.and_self]
  | st b ih => unfold kZ; split
               · rfl
               · exact ih
  | _ => rfl
theorem Mc {T : Nat → Option Ty} (hT : ∀ id t, T id = some t → Fit P T id t) : ∀ t : Ty, (∀ id, T id = some t → ∃ v, KV P G w tm (kZ t) v ∧ iB t v ∧ v.cells.toList = aO t) ∧
    (∀ (fs : List Field) (off : Nat), dz T fs t off = true → ∃ vs : List Value, KV P G w tm (kZ t) (.tuple vs.toArray) ∧ sa t vs ∧ (vs.flatMap fun u => u.cells.toList) = aO t) := by
  intro t
  have data : ∀ t : Ty, kZ t = .val t (zero t) → ∀ id, T id = some t → ∃ v, KV P G w tm (kZ t) v ∧ iB t v ∧ v.cells.toList = aO t := by
    intro t e id h
    have hf := hT id t h
    have hz := eC P G.av w t hf.plain
    refine ⟨az t (aO t), by rw [e]; exact ⟨_, rfl, hz⟩, vP (eI hf) ⟨_, rfl, hz⟩, ?_⟩
    rw [bJ hz.length (eI hf) hz.oneCell]
  have nofld : ∀ t : Ty, (∀ a b, t ≠ .pair a b) → t ≠ .unit → ∀ (fs : List Field) (off : Nat), dz T fs t off = true → False := by
    intro t h1 h2 fs off h
    cases fs <;> cases t <;> first | (exact absurd rfl h2) | (exact absurd rfl (h1 _ _)) | cases h
  induction t with
  | unit => exact ⟨fun id h => absurd rfl (iG (hT id _ h).shape).1, fun fs off h => ⟨[], rfl, rfl, rfl⟩⟩
  | pair a b iha ihb =>
    refine ⟨fun id h => absurd rfl ((iG (hT id _ h).shape).2.1 a b), fun fs off h => ?_⟩
    cases fs with
    | nil => cases h
    | cons f fs =>
      simp only [dz, Bool.and_eq_true, beq_iff_eq, decide_eq_true_eq] at h
      obtain ⟨⟨⟨⟨h1, h2⟩, _⟩, _⟩, h5⟩ := h
      obtain ⟨v, v1, v2, v3⟩ := iha.1 _ h2
      obtain ⟨vs, s1, s2, s3⟩ := ihb.2 fs _ h5
      refine ⟨v :: vs, ⟨v, vs, rfl, v1, s1⟩, ⟨v, vs, rfl, v2.1, v2.2.1, v2.2.2.1, v2.2.2.2, s2⟩, ?_⟩
      rw [List.flatMap_cons, v3, s3]; rfl
  | st b ih =>
    refine ⟨fun id h => ?_, fun fs off h => (nofld _ (fun _ _ e => by cases e) (fun e => by cases e) fs off h).elim⟩
    cases hfl : eP b with
    | true => exact data _ (by unfold kZ; rw [if_pos hfl]; rfl) id h
    | false =>
      obtain ⟨fs, _, hfs, _⟩ := iT (hT id _ h).shape
      obtain ⟨vs, s1, s2, s3⟩ := ih.2 fs.toList 0 hfs
      obtain ⟨k1, k2⟩ := ru s2
      refine ⟨.agg (vs.flatMap fun u => u.cells.toList).toArray, ?_, ⟨by show (vs.flatMap fun u => u.cells.toList).toArray.size = siz b; rw [List.size_toArray]; exact k1, (by show ∀ u ∈ vs.flatMap (fun u => u.cells.toList), u.oneCell' = true; exact k2), fun _ => ⟨_, rfl⟩, fun h => (by cases h)⟩, (by show vs.flatMap (fun u => u.cells.toList) = aO b; exact s3)⟩
      unfold kZ
      rw [if_neg (by rw [hfl]; simp)]
      exact ⟨vs, s1, s2, rfl⟩
  | slc e _ => exact ⟨fun id h => ⟨.slice none 0 0, rfl, iW rfl rfl rfl, rfl⟩, fun fs off h => (nofld _ (fun _ _ e => by cases e) (fun e => by cases e) fs off h).elim⟩
  | mp k v _ _ => exact ⟨fun id h => ⟨.map none, rfl, iW rfl rfl rfl, rfl⟩, fun fs off h => (nofld _ (fun _ _ e => by cases e) (fun e => by cases e) fs off h).elim⟩
  | _ => exact ⟨data _ rfl, fun fs off h => (nofld _ (fun _ _ e => by cases e) (fun e => by cases e) fs off h).elim⟩
theorem za (hM : MemOk P G w) {id : Nat} (hf : G.b id = .no) {t : Ty} {eid : TypeId} {k : K} {v : Value} (hn : nog k = true) (hk : KV P G w tm k v) (ho : iB t v) :
    ∃ G', G'.b = aD G.b [(id, .live (.obj t k))] ∧ G.Ext w G' (w.alloc (.cells v.cells eid)) ∧ MemOk P G' (w.alloc (.cells v.cells eid)) ∧
      KV P G' (w.alloc (.cells v.cells eid)) tm (.ptr id t []) (.pointer (some ⟨w.heap.size, 0, none⟩)) := by
  have hkp := Kept.alloc w (.cells v.cells eid)
  have := hM.add (P := P) hkp (id := id) (g := w.heap.size) (h := .pointer (some ⟨w.heap.size, 0, none⟩)) (x := .obj t k) hf (Nat.le_refl _) (fun G' hE hh hb _ =>
    ⟨w.heap.size, v.cells, eid, v, hb, by unfold Gst.nb; rw [hE.w0]; exact .inl hM.kept.size, iS w _, hn, (hk.tm hn).ext hE, rfl, ho.1, ho.2.1, ho.2.2.1, ho.2.2.2, by rw [hh]; rfl⟩)
  refine ⟨_, ?_, this.2, this.1, ⟨.obj t k, .inl (by simp [Gst.add])⟩, (by cases t <;> trivial), w.heap.size, by simp [Gst.add], ?_⟩
  · rfl
  · have e : aH t [] = 0 := by cases t <;> rfl
    simp [Gst.add, e, iH]
theorem G9 (hD : DOk P D) (hM : MemOk P G w) {e : TypeId} (ho : o.op = .alloc e) {b : Ty} (ht : D.ty e = some (.st b)) {id : Nat} (hf : aR G.b id = true) :
    aj P o a G w tm (.ptr id (.st b) []) [(id, .live (.obj (.st b) (.agg b (kZ b))))] := by
  have hfit := hD.fit ht
  obtain ⟨fs, _, hfs, _⟩ := iT hfit.shape
  obtain ⟨vs, s1, s2, s3⟩ := (Mc (P := P) (G := G) (w := w) (tm := tm) (T := D.ty) (fun id t h => hD.fit h) b).2 fs.toList 0 hfs
  obtain ⟨k1, k2⟩ := ru s2
  obtain ⟨G', hb, he, hM', hk⟩ := za (tm := tm) hM (eid := e) (bL hf) (t := .st b) (k := .agg b (kZ b)) (v := .agg (vs.flatMap fun u => u.cells.toList).toArray) (Nt b) ⟨vs, s1, s2, rfl⟩
    ⟨by show (vs.flatMap fun u => u.cells.toList).toArray.size = siz b; rw [List.size_toArray]; exact k1, (by show ∀ u ∈ vs.flatMap (fun u => u.cells.toList), u.oneCell' = true; exact k2), fun _ => ⟨_, rfl⟩, fun h => (by cases h)⟩
  refine bl ?_ hb he hM' hk
  have hz : az (.st b) (aO (.st b)) = .agg (vs.flatMap fun u => u.cells.toList).toArray := by rw [s3]; rfl
  simp only [execOp, ho, Instr.alloc, Sem.run_bind, hfit.zeroValue w, Result.andThen_ok, newVar, newRow, run_newObj, Sem.run_pure, hz]
  rfl
theorem JY (hD : DOk P D) (hM : MemOk P G w) {e : TypeId} {x : Operand} (ho : o.op = .box e x) {b : Ty} {c : K} (ht : D.ty e = some (.st b)) {id : Nat} (hf : aR G.b id = true) (hn : nog c = true) (hk : KV P G w tm (.agg b c) (a.eval x)) :
    aj P o a G w tm (.ptr id (.st b) []) [(id, .live (.obj (.st b) (.agg b c)))] := by
  have hone := Aw (t := .st b) hk (decide_eq_true rfl) (fun h => by cases h)
  obtain ⟨G', hb, he, hM', hk'⟩ := za (tm := tm) hM (eid := e) (bL hf) (t := .st b) (k := .agg b c) (v := a.eval x) hn hk hone
  refine bl ?_ hb he hM' hk'
  simp only [execOp, ho, Instr.box, Sem.run_bind, newVar, newRow, run_newObj, Result.andThen_ok, Sem.run_pure]
  rfl
theorem He (hD : DOk P D) (hM : MemOk P G w) {e : TypeId} (ho : o.op = .alloc e) {el : Ty} (ht : D.ty e = some (.slc el)) {id : Nat} (hf : aR G.b id = true) :
    aj P o a G w tm (.ptr id (.slc el) []) [(id, .live (.obj (.slc el) .nilsl))] := by
  have hfit := hD.fit ht
  obtain ⟨G', hb, he, hM', hk⟩ := za (tm := tm) hM (eid := e) (bL hf) (t := .slc el) (k := .nilsl) (v := .slice none 0 0) rfl rfl (iW rfl rfl rfl)
  refine bl ?_ hb he hM' hk
  have hz : az (.slc el) (aO (.slc el)) = .slice none 0 0 := rfl
  simp only [execOp, ho, Instr.alloc, Sem.run_bind, hfit.zeroValue w, Result.andThen_ok, newVar, newRow, run_newObj, Sem.run_pure, hz]
  rfl
theorem KG (hM : MemOk P G w) {e : TypeId} {x : Operand} (ho : o.op = .box e x) {el : Ty} {k : K} {id : Nat} (hf : aR G.b id = true) (hn : nog k = true) (hfit : jc G.b (.slc el) k = true) (hk : KV P G w tm k (a.eval x)) :
    aj P o a G w tm (.ptr id (.slc el) []) [(id, .live (.obj (.slc el) k))] := by
  have hone := FV (t := .slc el) hM hk hfit (fun _ => rfl)
  obtain ⟨G', hb, he, hM', hk'⟩ := za (tm := tm) hM (eid := e) (bL hf) (t := .slc el) (k := k) (v := a.eval x) hn hk hone
  refine bl ?_ hb he hM' hk'
  simp only [execOp, ho, Instr.box, Sem.run_bind, newVar, newRow, run_newObj, Result.andThen_ok, Sem.run_pure]
  rfl
theorem Ct {r : Operand → K} (hr : ∀ x, KV P G w tm (r x) (a.eval x)) {b : Ty} {ps : List (Nat × Nat)} (hps : ∀ i u, cN b i = some u → ps[i]? = some (0 + bz b i, siz u)) (h1 : ∀ i u, cN b i = some u → isAgg u = false → siz u = 1) :
    ∀ (parts : List (Nat × Operand)) (c c' : K) (vs : List Value), KV P G w tm c (.tuple vs.toArray) → sa b vs → nE r b c parts = some c' →
      ∃ vs' : List Value, Instr.fill (fun i => ps[i]?) (vs.flatMap fun u => u.cells.toList).toArray (parts.map fun (i, x) => (i, a.eval x)) = some (vs'.flatMap fun u => u.cells.toList).toArray ∧ KV P G w tm c' (.tuple vs'.toArray) ∧ sa b vs'
  | [], c, c', vs, hc, hl, h => by
    have e : c = c' := Option.some.inj h
    subst e
    exact ⟨vs, rfl, hc, hl⟩
  | (i, x0) :: l, c, c', vs, hc, hl, h => by
    unfold nE at h
    split at h
    · rename_i u hu
      split at h
      · rename_i hfit
        split at h
        · rename_i c1 hc1
          have hone := Aw (hr x0) hfit (h1 i u hu)
          obtain ⟨g1, g2⟩ := Gs hl hu hone
          have hle := lu hu
          have hf := yu (place := fun i => ps[i]?) (cells := (vs.flatMap fun u => u.cells.toList).toArray) (i := i) (v := a.eval x0) (rest := l.map fun (i, x) => (i, a.eval x)) (off := bz b i) (size := siz u) (by rw [hps i u hu, Nat.zero_add]) hone.1 (by rw [List.size_toArray, (ru hl).1]; exact hle)
          obtain ⟨vs', e1, e2, e3⟩ := Ct hr hps h1 l c1 c' (vs.set i (a.eval x0)) (zn hc (hr x0) hc1) g1 h
          refine ⟨vs', ?_, e2, e3⟩
          rw [← e1, g2]
          exact hf
        · cases h
      · cases h
    · cases h
theorem HS (hD : DOk P D) (hM : MemOk P G w) {e : TypeId} {parts : Array (Nat × Operand)} (ho : o.op = .build e parts) {b : Ty} (ht : D.ty e = some (.st b)) {r : Operand → K} (hr : ∀ x, KV P G w tm (r x) (a.eval x)) {c : K} (hv : nE r b (kZ b) parts.toList = some c) :
    aj P o a G w tm (.agg b c) [] := by
  have hfit := hD.fit ht
  obtain ⟨fs, hu, hfs, _⟩ := iT hfit.shape
  obtain ⟨ps, hps, hpl⟩ := xy (w := w) (fun id t e => hD.fit e) fs.toList b 0 hfs
  obtain ⟨vs, s1, s2, s3⟩ := (Mc (P := P) (G := G) (w := w) (tm := tm) (T := D.ty) (fun id t h => hD.fit h) b).2 fs.toList 0 hfs
  obtain ⟨vs', hf, f2, f3⟩ := Ct hr hpl (Dt (fun id t e => hD.fit e) fs.toList b 0 hfs) parts.toList (kZ b) c vs s1 s2 hv
  refine aA hM (v := .agg (vs'.flatMap fun u => u.cells.toList).toArray) ?_ ⟨vs', f2, f3, rfl⟩
  have hm : (fs.mapM fun f => (do pure (f.offset, ← sizeOf f.type) : Sem (Nat × Nat))).run P w = .ok ps.toArray w := by
    rw [Array.mapM_eq_mapM_toList]
    simp only [Sem.run_map, hps, Result.andThen_ok]
  have hzc : (az (.st b) (aO (.st b))).cells = (vs.flatMap fun u => u.cells.toList).toArray := by rw [s3]; rfl
  simp only [execOp, ho, Instr.build, Sem.run_bind, hfit.zeroValue w, Result.andThen_ok, run_underlying hu, hm, hzc, Array.toList_map, List.getElem?_toArray, hf, Sem.run_pure]
theorem Jk (hD : DOk P D) (hM : MemOk P G w) {t : TypeId} {u : Ty} (ht : D.ty t = some u) {x : Operand} (ho : o.op = .load t x) {id : Nat} {base : Ty} {p : List Sel} (hk : KV P G w tm (.ptr id base p) (a.eval x))
    {k k' : K} (hb : an G.b id = some (.obj base k)) (hta : c7 base p = some u) (hn : A8 base k p = some k') : aj P o a G w tm k' [] := by
  obtain ⟨g', arr, eid, v, b1, b2, b3, b4, b5, b6, b7, b8, b9, b10, b11⟩ := hM.box id _ (ao hb)
  obtain ⟨_, hp, g, hg, hx⟩ := hk
  rw [hg] at b1
  cases b1
  have hone : iB base v := ⟨by rw [b6]; exact b7, by rw [b6]; exact b8, b9, b10⟩
  obtain ⟨v', f1, f2, f3, f4⟩ := Mh (b5.tm (tm' := tm) b4) hone hta hp (eI (hD.fit ht)) hn
  rw [b11, Nat.zero_add] at hx
  have hcl := sD (off := aH base p) (n := siz u) (e := .unit) (.of b3)
  rw [← b6, f4] at hcl
  have := qo hD ht (L := v'.cells.toList) (by rw [Array.length_toList]; exact f2.1) hcl ho hx
  rw [HM f2] at this
  exact aA hM this f1
theorem HK (hD : DOk P D) (hM : MemOk P G w) {t : TypeId} {u : Ty} (ht : D.ty t = some u) {x v : Operand} (ho : o.op = .store t x v) {id : Nat} {base : Ty} {p : List Sel} (hk : KV P G w tm (.ptr id base p) (a.eval x))
    {kv : K} (hv : KV P G w tm kv (a.eval v)) (hfit : jc G.b u kv = true) (hnv : nog kv = true) {k k' : K} (hb : an G.b id = some (.obj base k)) (hta : c7 base p = some u) (hn : lY G.b base k p kv = some k') : aj P o a G w tm .any [(id, .live (.obj base k'))] := by
  have hbl := ao hb
  obtain ⟨g, arr, eid, v0, b1, b2, b3, b4, b5, b6, b7, b8, b9, b10, b11⟩ := hM.box id _ hbl
  obtain ⟨_, hp, g', hg, hx⟩ := hk
  rw [hg] at b1
  cases b1
  have hone : iB base v0 := ⟨by rw [b6]; exact b7, by rw [b6]; exact b8, b9, b10⟩
  have hvo := FV hM hv hfit (eI (hD.fit ht))
  obtain ⟨v', f1, f2, f3, f4⟩ := Mj hM (hv.tm (tm' := fun _ => undef) hnv) hvo (eI (hD.fit ht)) b5 hone hta hp hn
  have hnog : nog k' = true := by
    have key : ∀ {p : List Sel} {t : Ty} {k k' : K}, nog k = true → lY G.b t k p kv = some k' → nog k' = true := by
      intro p
      induction p with
      | nil =>
        intro t k k' _ h
        have h : (if jc G.b t kv then some kv else none) = some k' := by cases t <;> cases k <;> exact h
        split at h
        · cases h; exact hnv
        · cases h
      | cons s p ih =>
        intro t k k' hk h
        have hset : ∀ {c c' : K} {i : Nat} {q : K}, nog c = true → nog q = true → pf c i q = some c' → nog c' = true := by
          intro c
          induction c with
          | kcons x y _ ihy =>
            intro c' i q hc hq h
            simp only [nog, Bool.and_eq_true] at hc
            cases i with
            | zero => cases h; simp only [nog, hq, hc.2, Bool.and_self]
            | succ i =>
              have h : (match pf y i q with | some b' => some (.kcons x b') | none => none) = some c' := h
              split at h
              · rename_i b' hb'
                cases h
                simp only [nog, hc.1, ihy hc.2 hq hb', Bool.and_self]
              · cases h
          | _ => intro c' i q _ _ h; cases i <;> cases h
        have hget : ∀ {c : K} {i : Nat}, nog c = true → nog (sb c i) = true := by
          intro c
          induction c with
          | kcons x y _ ihy =>
            intro i hc
            simp only [nog, Bool.and_eq_true] at hc
            cases i with
            | zero => exact hc.1
            | succ i => exact ihy hc.2
          | _ => intro i _; cases i <;> rfl
        unfold lY at h
        split at h
        · rename_i hd; cases hd
        · rename_i hs
          injection hs with hs1 hs2
          subst hs1 hs2
          split at h
          · split at h
            · split at h
              · rename_i k1 hk1
                split at h
                · rename_i c' hc'
                  cases h
                  have hn1 : nog c' = true := hset (by exact hk) (ih (hget (by exact hk)) hk1) hc'
                  exact hn1
                · cases h
              · cases h
            · cases h
          · cases h
        · split at h
          · split at h
            · cases h; rfl
            · cases h
          · cases h
        · cases h
    exact key b4 hn
  have hlen : (a.eval v).cells.toList.length = siz u := by rw [Array.length_toList]; exact hvo.1
  have hA : arr.toList.length = arr.size := Array.length_toList
  rw [b11, Nat.zero_add] at hx
  have hle : aH base p + siz u ≤ arr.size := by omega
  have hm := hM.turn hbl hg (x := .obj base k') (cs := (ar arr.toList (aH base p) (a.eval v).cells.toList).toArray) (fun G' w' e1 hE e2 e3 => by
    have hcs : v'.cells = (ar arr.toList (aH base p) (a.eval v).cells.toList).toArray := by
      apply Array.ext'
      rw [f4, b6]
    refine ⟨g, v'.cells, eid, v', e3, by unfold Gst.nb; rw [hE.w0, hE.own]; exact b2, ?_, hnog, f1.ext hE, rfl, f2.1, f2.2.1, f2.2.2.1, f2.2.2.2, by rw [e2]; exact b11⟩
    rw [e1, hcs]
    exact setRow_heap w g arr _ eid (0, 0) b3)
  have hst := run_storeCells_at P g (aH base p) eid (a.eval v).cells.toList 0 arr w b3 (by rw [hlen]; simpa using hle) hvo.2.1
  simp only [Nat.add_zero] at hst
  have hrun : (execOp a.eval o).run P w = .ok .skip (w.setRow g (ar arr.toList (aH base p) (a.eval v).cells.toList).toArray) := by
    simp only [execOp, ho, hx, Instr.storeAt, Instr.sureAddr, storeVar, Sem.run_bind, Sem.run_pure, Result.andThen_ok, (hD.fit ht).sizeOf w, hvo.1, ne_eq, not_true_eq_false, if_false, hst]
    rw [ar]
  intro next Q h
  unfold Oper.wp
  rw [hrun]
  exact h _ _ undef rfl hm.2 hm.1 trivial
theorem MemOk.turnO {w' : World} (hM : MemOk P G w) {id g : Nat} {x y : Bx} (hb : G.b id = .live y) (hk : G.bk id = some g)
    (hos : w'.os = w.os) (htape : Tp w w') (hout : w'.output = w.output) (hsize : w.heap.size ≤ w'.heap.size) (hsame : ∀ b, b ≠ g → w'.heap[b]? = w.heap[b]?)
    (hx : ∀ G', G.Ext w G' w' → G'.hd id = G.hd id → G'.bk id = some g → fo P G' w' id x) : MemOk P (G.turn id x) w' ∧ G.Ext w (G.turn id x) w' := by
  have hlt := fp hM hb hk
  have hav : G.av g := .inr ⟨id, y, hb, hk⟩
  have hl : Lat G.av w (G.turn id x).av w' := ⟨hsize, fun b _ hO => ⟨hsame b (fun e => hO (e ▸ hav)), fun h => hO ((Gst.turn_av hb b).1 h)⟩⟩
  have hkept : tq G.own G.w0 w' := ⟨hos.trans hM.kept.os, htape.trans hM.kept.tape, hout.trans hM.kept.output, Nat.le_trans hM.kept.size hsize, fun b hb' ho => by
    rw [hsame b (fun e => hlt.2.elim (fun h => by omega) (fun h => ho (by rw [e]; exact h)))]; exact hM.kept.block b hb' ho⟩
  have hE : G.Ext w (G.turn id x) w' := ⟨hl, fun i hi => ⟨rfl, rfl, by
    by_cases e : i = id
    · simp [Gst.turn, e]
    · simpa [Gst.turn, e] using hi⟩, ⟨fun _ h => h, fun _ h => .inl h⟩, rfl, rfl, fun b hO _ => hsame b (fun e => hM.boxO id y g hb hk (e ▸ hO))⟩
  refine ⟨⟨hkept, fun g h => Nat.lt_of_lt_of_le (hM.old g h) hsize, hM.dis, fun i z hi => ?_, fun i j y' z b hi hj ki kj => ?_, fun i z b hi ki => ?_⟩, hE⟩
  rotate_right
  · by_cases e : i = id
    · subst e; exact hM.boxO i y b hb ki
    · exact hM.boxO i z b (by simpa [Gst.turn, e] using hi) ki
  · by_cases e : i = id
    · subst e
      have : z = x := by simp [Gst.turn] at hi; exact hi.symm
      subst this
      exact hx _ hE rfl hk
    · have hi' : G.b i = .live z := by simpa [Gst.turn, e] using hi
      exact (hM.box i z hi').keep hE rfl rfl (fun b hb' => hsame b (fun e' => e (hM.sep i id z y g hi' hb (e' ▸ hb') hk)))
  · have h1 : ∃ y'', G.b i = .live y'' := by
      by_cases e : i = id
      · exact ⟨y, e ▸ hb⟩
      · exact ⟨y', by simpa [Gst.turn, e] using hi⟩
    have h2 : ∃ z'', G.b j = .live z'' := by
      by_cases e : j = id
      · exact ⟨y, e ▸ hb⟩
      · exact ⟨z, by simpa [Gst.turn, e] using hj⟩
    obtain ⟨y'', h1⟩ := h1
    obtain ⟨z'', h2⟩ := h2
    exact hM.sep i j y'' z'' b h1 h2 ki kj
theorem vS {T : Nat → Option Ty} {id : TypeId} {k v : Ty} (h : bZ P T id (.mp k v) = true) : ∃ kt vt, P.underlying id = some (.map kt vt) ∧ T kt = some k ∧ T vt = some v := by
 rcases hd : P.underlying id with _ | d
 ·simp [bZ, hd] at h
 ·cases d <;> simp [bZ, hd] at h ⊢
  exact ⟨_, _, ⟨rfl, rfl⟩, h.1.1.1, h.1.1.2⟩
structure Dp (P : Program) (kid : TypeId) (k : Ty) : Prop where
 check : ∀ (em : Bool) (w : World) (O : Nat → Prop) (v : Value) (x : den k), aB P k O w v x → (Instr.checkKey em 10000 kid v).run P w = .ok () w
 find : ∀ (w : World) (O : Nat → Prop) (v : Value) (x : den k) (es : List MapEntry), aB P k O w v x → (∀ e ∈ es, ∃ y : den k, aB P k O w e.key y) →
  ((Instr.findKey kid v es).run P w = .ok none w ∧ ∀ e ∈ es, e.key ≠ v) ∨ ∃ j e, (Instr.findKey kid v es).run P w = .ok (some (j, e.val)) w ∧ es[j]? = some e ∧ e.key = v
 stays : ∀ (w : World) (O : Nat → Prop) (v : Value) (x : den k), aB P k O w v x → (Instr.keyThatStays v v).run P w = .ok v w
theorem qr {kid : TypeId} {k : Ty} {d : TypeDesc} (hd : P.underlying kid = some d) (hkey : ∀ (O : Nat → Prop) (w : World) v x, aB P k O w v x → IsKey d v) : Dp P kid k where
 check := fun em w O v x h => Go.MapKept.run_checkKey hd (hkey _ _ _ _ h) em 9999
 find := fun w O v x es h hes => by
  rcases Go.MapKept.findNow_spec (hkey _ _ _ _ h) es 0 (fun e he => let ⟨_, hy⟩ := hes e he; hkey _ _ _ _ hy) with ⟨h1, h2⟩ | ⟨j, e, h1, h2, h3⟩
  ·exact .inl ⟨Go.MapKept.run_findKey hd h1, h2⟩
  ·exact .inr ⟨j, e, by rw [Go.MapKept.run_findKey hd h1, Nat.zero_add], h2, h3⟩
 stays := fun w O v x h => Go.MapKept.run_keyThatStays (hkey _ _ _ _ h)
theorem nW {q : IntKind} {O : Nat → Prop} {w : World} : ∀ {cs : List Value} {xs : List Int}, RepAll (fun cs x => Rep P (.int q) .cells O w cs x) 1 cs xs → cs = xs.map (Value.int q) ∧ ∀ x ∈ xs, InK q x
 | cs, [], h => ⟨h, fun _ hx => by cases hx⟩
 | cs, x :: xs, ⟨⟨e, hk⟩, h2⟩ => by
  obtain ⟨i1, i2⟩ := nW h2
  refine ⟨?_, fun y hy => ?_⟩
  ·rw [← List.take_append_drop 1 cs, e, i1]; rfl
  ·rcases List.mem_cons.1 hy with rfl | hy
   ·exact hk
   ·exact i2 y hy
theorem Af {q : IntKind} : ∀ {x y : List Int}, x.map (Value.int q) = y.map (Value.int q) → x = y
 | [], [], _ => rfl
 | a :: x, b :: y, h => by
  rw [List.map_cons, List.map_cons] at h
  have h1 := List.cons.inj h
  have e : a = b := by injection h1.1
  rw [e, Af h1.2]
 | [], _ :: _, h => by cases h
 | _ :: _, [], h => by cases h
theorem xI {α β : Type} {f : α → Option β} : ∀ {l : List α}, (∀ x ∈ l, ∃ y, f x = some y) → ∃ r, l.mapM f = some r
 | [], _ => ⟨[], rfl⟩
 | x :: l, h => by
  obtain ⟨y, hy⟩ := h x List.mem_cons_self
  obtain ⟨r, hr⟩ := xI (l := l) fun z hz => h z (List.mem_cons_of_mem _ hz)
  exact ⟨y :: r, by simp [List.mapM_cons, hy, hr]⟩
theorem Kf {T : Nat → Option Ty} (hT : ∀ id t, T id = some t → Fit P T id t) {kid : TypeId} {k : Ty} (hf : Fit P T kid k) (he : qv k = true) (hd : ht k ≤ 10000) {O : Nat → Prop} {w : World} {v : Value} {x : den k} (hx : aB P k O w v x)
    (inj : ∀ {a : Value} {y : den k}, aB P k O w a y → (a = v ↔ y = x)) : ∀ (es : List MapEntry) (i : Nat), (∀ e ∈ es, ∃ y : den k, aB P k O w e.key y) →
      ((Instr.findAsking kid v es i).run P w = .ok none w ∧ ∀ e ∈ es, e.key ≠ v) ∨ ∃ j e, (Instr.findAsking kid v es i).run P w = .ok (some (i + j, e.val)) w ∧ es[j]? = some e ∧ e.key = v
  | [], i, _ => .inl ⟨by simp [Instr.findAsking], fun _ h => by cases h⟩
  | e :: es, i, h => by
    obtain ⟨y, hy⟩ := h e List.mem_cons_self
    have hr := yE hT hf he hd hx hy
    cases hc : eqb k x y with
    | true =>
      rw [hc] at hr
      have exy := (nC he x y).1 hc
      exact .inr ⟨0, e, by simp [Instr.findAsking, hr], rfl, (inj hy).2 exy.symm⟩
    | false =>
      rw [hc] at hr
      have hne : e.key ≠ v := fun hk => by
        have := (nC he x y).2 ((inj hy).1 hk).symm
        rw [hc] at this; cases this
      rcases Kf hT hf he hd hx inj es (i + 1) (fun z hz => h z (List.mem_cons_of_mem _ hz)) with ⟨h1, h2⟩ | ⟨j, e', h1, h2, h3⟩
      · refine .inl ⟨by simp [Instr.findAsking, hr, h1], fun z hz => ?_⟩
        rcases List.mem_cons.1 hz with rfl | hz
        · exact hne
        · exact h2 z hz
      · exact .inr ⟨j + 1, e', by simp [Instr.findAsking, hr, h1, Nat.add_assoc, Nat.add_comm 1 j], by simpa using h2, h3⟩
theorem zi {k : Ty} (hk : rX k = true) {O O' : Nat → Prop} {w w' : World} {a b : Value} {x y : den k} (hx : aB P k O w a x) (hy : aB P k O' w' b y) : a = b ↔ x = y := by
 cases k with
 | int q =>
  obtain ⟨cs, rfl, rfl, _⟩ := hx
  obtain ⟨cs', rfl, rfl, _⟩ := hy
  show Value.int q x = Value.int q y ↔ x = y
  simp
 | bool =>
  obtain ⟨cs, rfl, hc⟩ := hx
  obtain ⟨cs', rfl, hc'⟩ := hy
  have hc : cs = [.bool x] := hc
  have hc' : cs' = [.bool y] := hc'
  subst hc hc'
  show Value.bool x = Value.bool y ↔ x = y
  simp
 | str =>
  obtain ⟨cs, rfl, rfl, _⟩ := hx
  obtain ⟨cs', rfl, rfl, _⟩ := hy
  show Value.string x = Value.string y ↔ x = y
  simp
 | arr n e =>
  cases e with
  | int q =>
   obtain ⟨cs, rfl, _, h1⟩ := hx
   obtain ⟨cs', rfl, _, h2⟩ := hy
   obtain ⟨rfl, _⟩ := nW h1
   obtain ⟨rfl, _⟩ := nW h2
   show Value.agg (List.map (Value.int q) x).toArray = Value.agg (List.map (Value.int q) y).toArray ↔ x = y
   constructor
   ·intro h
    have h := List.toArray_inj (Value.agg.inj h)
    exact Af h
   ·intro h
    rw [h]
  | _ => cases hk
 | _ => cases hk
theorem J5 {k : Ty} (hk : rX k = true) : qv k = true := by
 cases k with
 | arr n e => cases e <;> first | rfl | cases hk
 | _ => first | rfl | cases hk
theorem Ds {k : Ty} (hk : rX k = true) (x y : den k) : eqb k x y = true ↔ x = y := nC (J5 hk) x y
theorem Hc {T : Nat → Option Ty} (hT : ∀ id t, T id = some t → Fit P T id t) {kid : TypeId} {n : Nat} {q : IntKind} (hf : Fit P T kid (.arr n (.int q))) : Dp P kid (.arr n (.int q)) := by
 obtain ⟨e, hu, he, _⟩ := iD hf.shape
 have hfe := hT _ _ he
 have hue := fk hfe.shape
 have hwide : (match P.underlying kid with | some (.array _ _) | some (.struct _) => true | _ => false) = true := by rw [hu]
 have hkt : P.keyTypeAt 2 kid = true := by
  unfold Program.keyTypeAt
  rw [hu]
  show P.keyTypeAt 1 e = true
  unfold Program.keyTypeAt
  rw [hue]
 have hce : P.cellsOf e = 1 := by
  obtain ⟨i, z, hi, hs, _⟩ := hfe.info
  unfold Program.cellsOf
  rw [hi]; exact hs
 have hck : P.cellsOf kid = n * 1 := by
  obtain ⟨i, z, hi, hs, _⟩ := hf.info
  unfold Program.cellsOf
  rw [hi]; exact hs
 have inj : ∀ {O : Nat → Prop} {w : World} {v : Value} {x : den (.arr n (.int q))}, aB P (.arr n (.int q)) O w v x → ∀ {a : Value} {y : den (.arr n (.int q))}, aB P (.arr n (.int q)) O w a y → (a = v ↔ y = x) := fun hx _ _ hy => zi (k := .arr n (.int q)) rfl hy hx
 refine ⟨fun em w O v x h => ?_, fun w O v x es h hes => ?_, fun w O v x h => ?_⟩
 ·obtain ⟨cs, rfl, hl, hr⟩ := h
  obtain ⟨ec, hin⟩ := nW hr
  have hlen : cs.length = n := by rw [ec, List.length_map]; exact hl
  have hlits : ∃ la, P.keyLits 2 kid cs = some la := by
   have hm : ∃ r, (List.range n).mapM (fun i => P.keyLits 1 e ((cs.drop (i * P.cellsOf e)).take (P.cellsOf e))) = some r := by
    refine xI fun i hi => ?_
    have hi : i < n := List.mem_range.1 hi
    rw [hce, Nat.mul_one]
    have hix : i < x.length := by rw [hl]; exact hi
    have e1 : (cs.drop i).take 1 = [Value.int q x[i]] := by
     rw [ec, ← List.map_drop, List.drop_eq_getElem_cons hix]
     rfl
    rw [e1]
    unfold Program.keyLits
    rw [hue]
    have hw : (Lit.int q x[i]).wf = true := by
     have := hin _ (List.getElem_mem hix)
     simpa [Lit.wf, InK] using this
    exact ⟨[.int q x[i]], by simp [hw]⟩
   obtain ⟨r, hr⟩ := hm
   unfold Program.keyLits
   rw [hu]
   simp only
   rw [if_pos (by rw [hck, hlen, Nat.mul_one]), hr]
   exact ⟨_, rfl⟩
  obtain ⟨la, hla⟩ := hlits
  have hform : (az (.arr n (.int q)) cs).formed P kid = true := by
   show Value.formed P kid (.agg cs.toArray) = true
   simp [Value.formed, hu, hck, hlen]
  have := run_checkKey_deep em 9998 2 kid hkt w 2 (az (.arr n (.int q)) cs) la hform (by
   show P.keyLits 2 kid cs.toArray.toList = some la
   simpa using hla)
  exact this
 ·rw [run_findKey_eq w hwide]
  have := Kf hT hf (J5 (k := .arr n (.int q)) rfl) (by simp [ht]) h (inj h) es 0 hes
  rcases this with h1 | ⟨j, e0, h1, h2, h3⟩
  ·exact .inl h1
  ·exact .inr ⟨j, e0, by rw [h1, Nat.zero_add], h2, h3⟩
 ·obtain ⟨cs, rfl, hl, hr⟩ := h
  obtain ⟨ec, _⟩ := nW hr
  have hs : Instr.sameBits 10000 (az (.arr n (.int q)) cs) (az (.arr n (.int q)) cs) = true := by
   show Instr.sameBits (9999 + 1) (.agg cs.toArray) (.agg cs.toArray) = true
   simp only [Instr.sameBits, beq_self_eq_true, Bool.true_and, List.all_eq_true]
   intro p hp
   obtain ⟨i, hi, e⟩ := List.getElem_of_mem hp
   rw [List.getElem_zip] at e
   rw [← e]
   simp only [ec, List.getElem_map]
   simp [Instr.sameBits]
  simp [Instr.keyThatStays, hs]
theorem Ff {T : Nat → Option Ty} (hT : ∀ id t, T id = some t → Fit P T id t) {id : TypeId} {k : Ty} (hf : Fit P T id k) (hk : rX k = true) : Dp P id k := by
 cases k with
 | int q =>
  refine qr (fk hf.shape) fun O w v x h => ?_
  obtain ⟨cs, rfl, rfl, _⟩ := h
  exact rfl
 | bool =>
  refine qr (qT hf.shape) fun O w v x h => ?_
  obtain ⟨cs, rfl, hc⟩ := h
  have hc : cs = [.bool x] := hc
  subst hc
  exact trivial
 | str =>
  refine qr (fX hf.shape) fun O w v x h => ?_
  obtain ⟨cs, rfl, rfl, _⟩ := h
  exact trivial
 | arr n e =>
  cases e with
  | int q => exact Hc hT hf
  | _ => cases hk
 | _ => cases hk
section
variable {k v : Ty} {O : Nat → Prop}
theorem A0 (hk : rX k = true) {kv : Value} {x : den k} (hx : aB P k O w kv x) : ∀ {ms : List MapEntry} {l : List (den k × den v)}, ff (aB P k O w) (aB P v O w) ms l → (∀ m ∈ ms, m.key ≠ kv) →
    mD (k := k) (v := v) l x = none ∧ ∀ {e : MapEntry} {y : den v}, aB P k O w e.key x → aB P v O w e.val y → ff (aB P k O w) (aB P v O w) (ms ++ [e]) (jU l x y)
  | [], [], _, _ => ⟨rfl, fun h1 h2 => ⟨h1, h2, trivial⟩⟩
  | m :: ms, q :: l, ⟨h1, h2, h3⟩, hne => by
    have hq : eqb k x q.1 = false := by
      cases hc : eqb k x q.1 with
      | false => rfl
      | true => exact absurd ((zi hk h1 hx).2 ((Ds hk _ _).1 hc).symm) (hne m (by simp))
    obtain ⟨i1, i2⟩ := A0 hk hx h3 fun m hm => hne m (by simp [hm])
    refine ⟨?_, fun {e y} a1 a2 => ?_⟩
    · unfold mD at i1 ⊢
      rw [List.find?_cons_of_neg (by simp [hq])]
      exact i1
    · rw [jU, if_neg (by simp [hq])]
      exact ⟨h1, h2, i2 a1 a2⟩
  | [], _ :: _, h, _ => h.elim
  | _ :: _, [], h, _ => h.elim
theorem FD (hk : rX k = true) {kv : Value} {x : den k} (hx : aB P k O w kv x) : ∀ {ms : List MapEntry} {l : List (den k × den v)} {j : Nat} {e : MapEntry}, ff (aB P k O w) (aB P v O w) ms l → (ms.map (·.key)).Nodup → ms[j]? = some e → e.key = kv →
    ∃ y, mD (k := k) (v := v) l x = some y ∧ aB P v O w e.val y ∧ ∀ {e' : MapEntry} {y' : den v}, aB P k O w e'.key x → aB P v O w e'.val y' → ff (aB P k O w) (aB P v O w) (ms.set j e') (jU l x y')
  | [], _, j, e, _, _, hj, _ => by cases hj
  | m :: ms, [], j, e, h, _, _, _ => h.elim
  | m :: ms, q :: l, 0, e, ⟨h1, h2, h3⟩, hn, hj, he => by
    have e1 : m = e := Option.some.inj hj
    subst e1
    have hq : eqb k x q.1 = true := (Ds hk _ _).2 ((zi hk h1 hx).1 he).symm
    refine ⟨q.2, ?_, h2, fun {e' y'} a1 a2 => ?_⟩
    · unfold mD; rw [List.find?_cons_of_pos (p := fun q : den k × den v => eqb k x q.1) hq]
    · rw [jU, if_pos hq]; exact ⟨a1, a2, h3⟩
  | m :: ms, q :: l, j + 1, e, ⟨h1, h2, h3⟩, hn, hj, he => by
    rw [List.map_cons, List.nodup_cons] at hn
    have hj : ms[j]? = some e := hj
    have hq : eqb k x q.1 = false := by
      cases hc : eqb k x q.1 with
      | false => rfl
      | true =>
        have := (zi hk h1 hx).2 ((Ds hk _ _).1 hc).symm
        exact absurd (List.mem_map.2 ⟨e, List.mem_of_getElem? hj, he.trans this.symm⟩) hn.1
    obtain ⟨y, i1, i2, i3⟩ := FD hk hx h3 hn.2 hj he
    refine ⟨y, ?_, i2, fun {e' y'} a1 a2 => ?_⟩
    · unfold mD at i1 ⊢
      rw [List.find?_cons_of_neg (by simp [hq])]
      exact i1
    · rw [jU, if_neg (by simp [hq])]
      exact ⟨h1, h2, i3 a1 a2⟩
end
theorem AO {k v : Ty} {O : Nat → Prop} : ∀ {ms : List MapEntry} {l : List (den k × den v)}, ff (aB P k O w) (aB P v O w) ms l → ∀ m ∈ ms, ∃ y : den k, aB P k O w m.key y
 | [], _, _, _, h => by cases h
 | m :: ms, [], h, _, _ => h.elim
 | m :: ms, q :: l, ⟨h1, _, h3⟩, m', hm' => by
  rcases List.mem_cons.1 hm' with rfl | hm'
  ·exact ⟨_, h1⟩
  ·exact AO h3 m' hm'
theorem pB {k v k' v' : Ty} {l : List (den k' × den v')} {l' : List (den k × den v)} (h : Bw k v k' v' l = some l') : k' = k ∧ v' = v ∧ HEq l l' := by
 unfold Bw at h
 split at h
 ·rename_i hh
  obtain ⟨rfl, rfl⟩ := hh
  have := Option.some.inj h
  subst this
  exact ⟨rfl, rfl, HEq.rfl⟩
 ·cases h
theorem Kc (hM : MemOk P G w) {t : TypeId} (ho : o.op = .makeMap t none) {k v : Ty} {id : Nat} (hf : aR G.b id = true) : aj P o a G w tm (.pm id) [(id, .live (.mpd k v []))] := by
 have hkp := Kept.alloc w (.map #[] 0)
 have := hM.add (P := P) hkp (id := id) (g := w.heap.size) (h := .map (some w.heap.size)) (x := .mpd k v []) (bL hf) (Nat.le_refl _) (fun G' hE hh hb _ =>
  ⟨w.heap.size, #[], 0, hb, by unfold Gst.nb; rw [hE.w0]; exact .inl hM.kept.size, iS w _, Go.MapKept.stamped_empty 0, trivial⟩)
 refine bl (v := .map (some w.heap.size)) ?_ rfl this.2 this.1 ⟨⟨.mpd k v [], .inl (by simp [Gst.add])⟩, w.heap.size, by simp [Gst.add], rfl⟩
 simp only [execOp, ho, Option.map_none, Instr.makeMap, Sem.run_bind, run_newObj, Result.andThen_ok, Sem.run_pure]
 rfl
theorem Ls (hD : DOk P D) (hM : MemOk P G w) {t : TypeId} {x i : Operand} {ok : Bool} (ho : o.op = .lookup t x i ok) {k v : Ty} (ht : D.ty t = some (.mp k v)) (hkt : rX k = true) {km : K} (hm : KV P G w tm km (a.eval x)) {l : List (den k × den v)} (hl : o8 G.b k v km = some l)
    {y : den k} (hy : aB P k G.av w (a.eval i) y) : aj P o a G w tm (if ok then .kcons (.val v (eW l y)) (.kcons (.val .bool (qR l y)) .knil) else .val v (eW l y)) [] := by
  obtain ⟨kid, vid, hu, hTk, hTv⟩ := vS (hD.fit ht).shape
  have hkg := Ff (fun _ _ h => hD.fit h) (hD.fit hTk) hkt
  have hfv := hD.fit hTv
  have hz : aB P v G.av w (az v (aO v)) (zero v) := ⟨_, rfl, eC P _ _ v hfv.plain⟩
  have fin : ∀ (es : Array MapEntry) (r : Option Nat), (r = none ∧ es = #[] ∨ ∃ g, r = some g ∧ ∃ ck, w.heap[g]? = some (.map es ck)) → a.eval x = .map r → (es.toList.map (·.key)).Nodup → ff (aB P k G.av w) (aB P v G.av w) es.toList l →
      ∃ u, (Instr.lookup t (a.eval x) (a.eval i) ok).run P w = .ok (if ok then .tuple #[u, .bool (qR l y)] else u) w ∧ aB P v G.av w u (eW l y) := by
    intro es r hr hx hn he
    have go : ∀ r' : Option (Nat × Value), (Instr.findKey kid (a.eval i) es.toList).run P w = .ok r' w → (Instr.lookup t (a.eval x) (a.eval i) ok).run P w =
        .ok (if ok then .tuple #[(match r' with | some q => q.2 | none => az v (aO v)), .bool r'.isSome] else (match r' with | some q => q.2 | none => az v (aO v))) w := by
      intro r' h1
      rw [hx]
      unfold Instr.lookup
      rcases hr with ⟨rfl, rfl⟩ | ⟨g, rfl, ck, hg⟩
      · simp only [Sem.run_bind, run_underlying hu, Result.andThen_ok, Sem.run_pure, hkg.check _ _ _ _ _ hy, h1]
        cases r' <;> cases ok <;> simp [hfv.zeroValue w, Result.andThen]
      · simp only [Sem.run_bind, run_underlying hu, Result.andThen_ok, Sem.run_pure, Go.MapKept.run_getObj_map hg, hkg.check _ _ _ _ _ hy, h1]
        cases r' <;> cases ok <;> simp [hfv.zeroValue w, Result.andThen]
    have hks := AO he
    rcases hkg.find w _ _ _ es.toList hy hks with ⟨h1, h2⟩ | ⟨j, e, h1, h2, h3⟩
    · have hnone := (A0 hkt hy he h2).1
      refine ⟨az v (aO v), ?_, by unfold eW; rw [hnone]; exact hz⟩
      rw [go _ h1]
      unfold qR
      rw [hnone]
      rfl
    · obtain ⟨u, g1, g2, _⟩ := FD hkt hy he hn h2 h3
      refine ⟨e.val, ?_, by unfold eW; rw [g1]; exact g2⟩
      rw [go _ h1]
      unfold qR
      rw [g1]
      rfl
  have key : ∃ u, (Instr.lookup t (a.eval x) (a.eval i) ok).run P w = .ok (if ok then .tuple #[u, .bool (qR l y)] else u) w ∧ aB P v G.av w u (eW l y) := by
    unfold o8 at hl
    split at hl
    · have e := (Option.some.inj hl).symm
      subst e
      have hm : a.eval x = .map none := hm
      exact fin #[] none (.inl ⟨rfl, rfl⟩) hm List.nodup_nil trivial
    · rename_i j
      split at hl
      · rename_i k' v' l0 hlive
        obtain ⟨rfl, rfl, he⟩ := pB hl
        have he := eq_of_heq he
        subst he
        obtain ⟨g, es, ck, b1, b2, b3, b4, b5⟩ := hM.box j _ (ao hlive)
        obtain ⟨_, g', hg', hx⟩ := hm
        rw [b1] at hg'
        cases hg'
        exact fin es (some g) (.inr ⟨g, rfl, ck, b3⟩) hx b4.2.2 b5
      · cases hl
    · rename_i k' v' l0
      obtain ⟨rfl, rfl, he⟩ := pB hl
      have he := eq_of_heq he
      subst he
      obtain ⟨cs, ev, r, rfl, hr0, hr1⟩ := hm
      cases r with
      | none =>
        have hn : l0 = [] := hr0 rfl
        exact fin #[] none (.inl ⟨rfl, rfl⟩) ev List.nodup_nil (by rw [hn]; exact trivial)
      | some g =>
        obtain ⟨_, _, es, ck, h3, h4, h5⟩ := hr1 g rfl
        exact fin es (some g) (.inr ⟨g, rfl, ck, h3⟩) ev h4 h5
    · cases hl
  obtain ⟨u, hrun, hu'⟩ := key
  refine aA hM (v := if ok then .tuple #[u, .bool (qR l y)] else u) (by simp only [execOp, ho, Sem.run_bind, hrun, Result.andThen_ok, Sem.run_pure]) ?_
  cases ok
  · exact hu'
  · exact ⟨u, [.bool (qR l y)], rfl, hu', ⟨.bool (qR l y), [], rfl, bv.2 rfl, rfl⟩⟩
theorem zB (hD : DOk P D) (hM : MemOk P G w) {t : TypeId} {x i z : Operand} (ho : o.op = .mapUpdate t x i z ∨ o.op = .insert t x i z) {k v : Ty} (ht : D.ty t = some (.mp k v)) (hkt : rX k = true) {j : Nat} (hm : KV P G w tm (.pm j) (a.eval x)) {l : List (den k × den v)} (hl : o8 G.b k v (.pm j) = some l)
    {y : den k} (hy : aB P k G.av w (a.eval i) y) {u : den v} (hz : aB P v G.av w (a.eval z) u) : aj P o a G w tm .any [(j, .live (.mpd k v (jU l y u)))] := by
  obtain ⟨kid, vid, hu, hTk, hTv⟩ := vS (hD.fit ht).shape
  have hkg := Ff (fun _ _ h => hD.fit h) (hD.fit hTk) hkt
  unfold o8 at hl
  simp only at hl
  split at hl
  · rename_i k' v' l0 hlive
    obtain ⟨rfl, rfl, he⟩ := pB hl
    have he := eq_of_heq he
    subst he
    have hbl := ao hlive
    obtain ⟨g, es, ck, b1, b2, b3, b4, b5⟩ := hM.box j _ hbl
    obtain ⟨_, g', hg', hx⟩ := hm
    rw [b1] at hg'
    cases hg'
    have hks := AO b5
    have fin : ∀ (es' : Array MapEntry) (ck' : Nat), (Instr.mapUpdate t (.map (some g)) (a.eval i) (a.eval z)).run P w = .ok () { w with heap := w.heap.setIfInBounds g (.map es' ck') } → Stamped es' ck' → ff (aB P k' G.av w) (aB P v' G.av w) es'.toList (jU l0 y u) →
        aj P o a G w tm .any [(j, .live (.mpd k' v' (jU l0 y u)))] := by
      intro es' ck' hrun hst hent
      have hset := Go.MapKept.heap_set (o' := .map es' ck') b3
      have hmm := hM.turnO hbl b1 (x := .mpd k' v' (jU l0 y u)) (w' := { w with heap := w.heap.setIfInBounds g (.map es' ck') }) rfl (.same rfl rfl) rfl (by simp) hset.2 (fun G' hE e2 e3 =>
        ⟨g, es', ck', e3, by unfold Gst.nb; rw [hE.w0, hE.own]; exact b2, hset.1, hst, hent.imp (fun _ _ r => aB.lat hE.lat r) (fun _ _ r => aB.lat hE.lat r)⟩)
      intro next Q h
      unfold Oper.wp
      have : (execOp a.eval o).run P w = .ok .skip { w with heap := w.heap.setIfInBounds g (.map es' ck') } := by
        rcases ho with ho | ho <;> simp only [execOp, ho, hx, Sem.run_bind, hrun, Result.andThen_ok, Sem.run_pure]
      rw [this]
      exact h _ _ undef rfl hmm.2 hmm.1 trivial
    rcases hkg.find w _ _ _ es.toList hy hks with ⟨h1, h2⟩ | ⟨i0, e, h1, h2, h3⟩
    · refine fin (es.push { key := a.eval i, val := a.eval z, born := ck }) (ck + 1) ?_ (Go.MapKept.stamped_push b4 h2) ?_
      · unfold Instr.mapUpdate
        simp only [Sem.run_bind, run_underlying hu, Result.andThen_ok, Go.MapKept.run_getObj_map b3, hkg.check _ _ _ _ _ hy, h1, Go.MapKept.run_setObj_map _ b3]
      · rw [Array.toList_push]
        exact (A0 hkt hy b5 h2).2 hy hz
    · obtain ⟨u0, g1, g2, g3⟩ := FD hkt hy b5 b4.2.2 h2 h3
      have hei : es[i0]? = some e := by simpa using h2
      refine fin (es.modify i0 fun e => { e with key := a.eval i, val := a.eval z }) ck ?_ (Go.MapKept.stamped_modify b4 i0 _ (fun _ _ => rfl) (fun e' _ he' => by rw [hei] at he'; cases he'; exact h3.symm)) ?_
      · unfold Instr.mapUpdate
        have hkt' : (Instr.keyThatStays e.key (a.eval i)).run P w = .ok (a.eval i) w := by rw [h3]; exact hkg.stays _ _ _ _ hy
        simp only [Sem.run_bind, run_underlying hu, Result.andThen_ok, Go.MapKept.run_getObj_map b3, hkg.check _ _ _ _ _ hy, h1, hei, Option.map_some, Option.getD_some, hkt', Go.MapKept.run_setObj_map _ b3]
      · have := g3 (e' := { e with key := a.eval i, val := a.eval z }) hy hz
        have hmod : (es.modify i0 fun e => { e with key := a.eval i, val := a.eval z }).toList = es.toList.set i0 { e with key := a.eval i, val := a.eval z } := by
          rw [Array.toList_modify]
          apply List.ext_getElem?
          intro n
          rw [List.getElem?_modify, List.getElem?_set]
          have hlt : i0 < es.toList.length := by
            have := (List.getElem?_eq_some_iff.1 h2).1
            exact this
          by_cases hn : i0 = n
          · subst hn
            rw [h2]; simp; exact hlt
          · rw [if_neg hn]
            simp [hn]
        rw [hmod]
        exact this
  · cases hl
theorem Cj {k v : Ty} {O : Nat → Prop} : ∀ {ms : List MapEntry} {l : List (den k × den v)}, ff (aB P k O w) (aB P v O w) ms l → ms.length = l.length
 | [], [], _ => rfl
 | _ :: _, _ :: _, ⟨_, _, h⟩ => by rw [List.length_cons, List.length_cons, Cj h]
 | [], _ :: _, h => h.elim
 | _ :: _, [], h => h.elim
theorem Iu {k v : Ty} {O : Nat → Prop} : ∀ {ms : List MapEntry} {l : List (den k × den v)} {i : Nat} {e : MapEntry}, ff (aB P k O w) (aB P v O w) ms l → ms[i]? = some e →
    ∃ q, l[i]? = some q ∧ aB P k O w e.key q.1 ∧ aB P v O w e.val q.2 ∧ ff (aB P k O w) (aB P v O w) (ms.eraseIdx i) (l.eraseIdx i)
  | m :: ms, q :: l, 0, e, ⟨h1, h2, h3⟩, hi => by cases hi; exact ⟨q, rfl, h1, h2, h3⟩
  | m :: ms, q :: l, i + 1, e, ⟨h1, h2, h3⟩, hi => by
    obtain ⟨q', e1, e2, e3, e4⟩ := Iu h3 (show ms[i]? = some e from hi)
    exact ⟨q', e1, e2, e3, h1, h2, e4⟩
  | [], [], _, _, _, hi => by cases hi
  | [], _ :: _, _, _, h, _ => h.elim
  | _ :: _, [], _, _, h, _ => h.elim
theorem Cu {α : Type} {f : α → Nat} : ∀ {l : List α} {i : Nat} {x : α}, (l.map f).Nodup → l[i]? = some x → l.filter (fun y => !(f y == f x)) = l.eraseIdx i
 | y :: l, 0, x, hn, hi => by
  cases hi
  rw [List.map_cons, List.nodup_cons] at hn
  rw [List.filter_cons_of_neg (by simp), List.eraseIdx_cons_zero, List.filter_eq_self]
  intro z hz
  simp
  exact fun e => hn.1 (List.mem_map.2 ⟨z, hz, e⟩)
 | y :: l, i + 1, x, hn, hi => by
  rw [List.map_cons, List.nodup_cons] at hn
  have hi : l[i]? = some x := hi
  have hne : ¬ f y = f x := fun e => hn.1 (List.mem_map.2 ⟨x, List.mem_of_getElem? hi, e.symm⟩)
  rw [List.filter_cons_of_pos (by simpa using hne), List.eraseIdx_cons_succ, Cu hn.2 hi]
theorem M1 (hM : MemOk P G w) {t : TypeId} {x : Operand} (ho : o.op = .range t x) {k v : Ty} (ht : D.ty t = some (.mp k v)) (hD : DOk P D) {j : Nat} (hm : KV P G w tm (.pm j) (a.eval x)) {l : List (den k × den v)} (hl : o8 G.b k v (.pm j) = some l) {id : Nat} (hf : aR G.b id = true) :
    aj P o a G w tm (.ptr id .unit []) [(j, .dead), (id, .live (.itr k v l none))] := by
  obtain ⟨kid, vid, hu, hTk, hTv⟩ := vS (hD.fit ht).shape
  unfold o8 at hl
  simp only at hl
  split at hl
  · rename_i k' v' l0 hlive
    obtain ⟨rfl, rfl, he⟩ := pB hl
    have he := eq_of_heq he
    subst he
    have hbl := ao hlive
    obtain ⟨g, es, ck, b1, b2, b3, b4, b5⟩ := hM.box j _ hbl
    obtain ⟨_, g', hg', hx⟩ := hm
    rw [b1] at hg'
    cases hg'
    obtain ⟨hM1, hE1⟩ := hM.drop j
    have hnav := Gst.drop_not_av hM hbl b1
    have hlt := (fp hM hbl b1).1
    have hkp := Kept.alloc w (.mapIter (some g) ck #[] ck)
    have hf1 : (G.drop j).b id = .no := by
      have hne : id ≠ j := fun e => by rw [e] at hf; rw [bL hf] at hbl; cases hbl
      show (if id = j then BS.dead else G.b id) = .no
      rw [if_neg hne]; exact bL hf
    have := hM1.add (P := P) hkp (id := id) (g := w.heap.size) (h := .pointer (some ⟨w.heap.size, 0, none⟩)) (x := .itr k' v' l0 none) hf1 (Nat.le_refl _) (fun G' hE hh hb _ =>
      ⟨w.heap.size, g, ck, #[], es, hb, by unfold Gst.nb; rw [hE.w0]; exact .inl hM.kept.size, iS w _, by rw [hh]; rfl, (hE.lat.keep g hlt hnav).2, Nat.lt_of_lt_of_le hlt hE.lat.size, by rw [(hE.lat.keep g hlt hnav).1]; exact b3, b4,
        by
          have : es.filter (fun e => !(#[] : Array Nat).contains e.born) = es := Array.filter_eq_self.2 fun x _ => by simp
          rw [this]
          exact b5.imp (fun _ _ r => aB.lat (hE1.lat.trans hE.lat) r) (fun _ _ r => aB.lat (hE1.lat.trans hE.lat) r), fun x h => by cases h⟩)
    refine bl (v := .pointer (some ⟨w.heap.size, 0, none⟩)) ?_ ?_ (hE1.trans this.2) this.1 ⟨⟨.itr k' v' l0 none, .inl (by simp [Gst.add])⟩, trivial, w.heap.size, by simp [Gst.add], by simp [Gst.add, iH, aH]⟩
    · simp only [execOp, ho, hx, Instr.range, Sem.run_bind, run_underlying hu, Result.andThen_ok, Go.MapKept.run_getObj_map b3, run_newObj, Sem.run_pure]
      rfl
    · rfl
  · cases hl
theorem Nx (hM : MemOk P G w) {x : Operand} (ho : o.op = .next x false) {j : Nat} (hm : KV P G w tm (.ptr j .unit []) (a.eval x)) {k v : Ty} {left : List (den k × den v)} {cur : Option (den k × den v)} (hb : an G.b j = some (.itr k v left cur)) :
    ∃ i, (left = [] ∨ i < left.length) ∧ aj P o a G w tm (.kcons (.val .bool (decide (0 < left.length))) .any) [(j, .live (.itr k v (left.eraseIdx i) left[i]?))] := by
  have hbl := ao hb
  obtain ⟨g, gm, since, seen, es, b1, b2, b3, b0, b4, b5, b6, b7, b8, b9⟩ := hM.box j _ hbl
  obtain ⟨_, _, g', hg', hx⟩ := hm
  rw [b1] at hg'
  cases hg'
  have hx : a.eval x = .pointer (some ⟨g, 0, none⟩) := by rw [hx, b0]; rfl
  have hll := Cj b8
  rcases run_next_at (P := P) w o.type g gm since since seen es since b3 b6 b7.1 (Nat.le_refl _) with ⟨h1, h2⟩ | ⟨e, he, w1, hw1, h2⟩
  · have hl0 : left = [] := by
      have : left.length = 0 := by rw [← hll]; simpa [leftOf] using h1
      exact List.eq_nil_of_length_eq_zero this
    subst hl0
    refine ⟨0, .inl rfl, ?_⟩
    have hmm := hM.turnO hbl b1 (x := .itr k v [] none) (w' := w) rfl (.refl w) rfl (Nat.le_refl _) (fun _ _ => rfl) (fun G' hE e2 e3 =>
      ⟨g, gm, since, seen, es, e3, by unfold Gst.nb; rw [hE.w0, hE.own]; exact b2, b3, by rw [e2]; exact b0, (hE.lat.keep gm b5 b4).2, b5, b6, b7,
        b8.imp (fun _ _ r => aB.lat hE.lat r) (fun _ _ r => aB.lat hE.lat r), fun x h => by cases h⟩)
    refine bl (v := .tuple #[.bool false]) (by simp only [execOp, ho, hx, Sem.run_bind, h2, Result.andThen_ok, Sem.run_pure]) rfl hmm.2 hmm.1 ?_
    exact ⟨.bool false, [], rfl, bv.2 rfl, trivial⟩
  · obtain ⟨i, hi, hie⟩ := List.getElem_of_mem he
    have hie' : (es.filter fun e => !seen.contains e.born).toList[i]? = some e := by rw [← hie]; exact List.getElem?_eq_getElem hi
    obtain ⟨q, q1, q2, q3, q4⟩ := Iu b8 hie'
    have hlt : i < left.length := (List.getElem?_eq_some_iff.1 q1).1
    refine ⟨i, .inr hlt, ?_⟩
    have hw1h : w1.heap = w.heap := by rcases hw1 with rfl | rfl <;> rfl
    have hr1 : w1.heap[g]? = some (.mapIter (some gm) since seen since) := by rw [hw1h]; exact b3
    have hset := Go.MapKept.heap_set (w := w1) (o' := .mapIter (some gm) since (seen.push e.born) since) hr1
    have hgm : gm ≠ g := fun e => b4 (e ▸ .inr ⟨j, _, hbl, b1⟩)
    have hmem : e ∈ es.toList := by
      have := List.mem_of_getElem? hie'
      simp at this ⊢
      exact this.1
    have hmm := hM.turnO hbl b1 (x := .itr k v (left.eraseIdx i) left[i]?) (w' := setBlock w1 g (.mapIter (some gm) since (seen.push e.born) since))
      (by rcases hw1 with rfl | rfl <;> rfl) (by rcases hw1 with rfl | rfl; exact .same rfl rfl; exact ⟨rfl, fun _ => Nat.le_succ _⟩) (by rcases hw1 with rfl | rfl <;> rfl)
      (by show w.heap.size ≤ (w1.heap.setIfInBounds g _).size; rw [Array.size_setIfInBounds, hw1h]; exact Nat.le_refl _)
      (fun b hb' => by show (w1.heap.setIfInBounds g _)[b]? = w.heap[b]?; rw [hset.2 b hb', hw1h])
      (fun G' hE e2 e3 => by
        have hkeep := hE.lat.keep gm b5 b4
        refine ⟨g, gm, since, seen.push e.born, es, e3, by unfold Gst.nb; rw [hE.w0, hE.own]; exact b2, hset.1, by rw [e2]; exact b0, hkeep.2, Nat.lt_of_lt_of_le b5 hE.lat.size, by rw [hkeep.1]; exact b6, b7, ?_, fun x hx' => ?_⟩
        · have hfil : (es.filter fun e' => !(seen.push e.born).contains e'.born).toList = (es.filter fun e => !seen.contains e.born).toList.eraseIdx i := by
            have hnd : (((es.filter fun e => !seen.contains e.born).toList).map (·.born)).Nodup := by
              rw [Array.toList_filter]
              exact b7.2.1.sublist ((List.filter_sublist).map _)
            rw [← Cu (f := fun e : MapEntry => e.born) hnd hie', Array.toList_filter, Array.toList_filter, List.filter_filter]
            refine List.filter_congr fun y _ => ?_
            simp only [Array.contains_push, Bool.not_or]
            rw [Bool.and_comm]
          rw [hfil]
          exact q4.imp (fun _ _ r => aB.lat hE.lat r) (fun _ _ r => aB.lat hE.lat r)
        · rw [q1] at hx'
          cases hx'
          exact ⟨e, hmem, by rw [Array.back?_push], q2.lat hE.lat, q3.lat hE.lat⟩)
    refine bl (v := .tuple #[.bool true, e.key, e.val]) (by simp only [execOp, ho, hx, Sem.run_bind, h2, Result.andThen_ok, Sem.run_pure]) rfl hmm.2 hmm.1 ?_
    refine ⟨.bool true, [e.key, e.val], rfl, bv.2 ?_, trivial⟩
    rw [decide_eq_true (show 0 < left.length by omega)]
theorem MA (hM : MemOk P G w) {x : Operand} (ho : o.op = .entry x) {j : Nat} (hm : KV P G w tm (.ptr j .unit []) (a.eval x)) {k v : Ty} {left : List (den k × den v)} {cur : Option (den k × den v)} (hb : an G.b j = some (.itr k v left cur)) (hc : cur.isSome = true) :
    aj P o a G w tm (.kcons (.val k (ER cur).1) (.kcons (.val v (ER cur).2) .knil)) [] := by
  have hbl := ao hb
  obtain ⟨g, gm, since, seen, es, b1, b2, b3, b0, b4, b5, b6, b7, b8, b9⟩ := hM.box j _ hbl
  obtain ⟨_, _, g', hg', hx⟩ := hm
  rw [b1] at hg'
  cases hg'
  have hx : a.eval x = .pointer (some ⟨g, 0, none⟩) := by rw [hx, b0]; rfl
  obtain ⟨q, rfl⟩ := Option.isSome_iff_exists.1 hc
  obtain ⟨e, e1, e2, e3, e4⟩ := b9 q rfl
  have hseen : ∃ s0 : Array Nat, seen = s0.push e.born := by
    rw [Array.back?_eq_some_iff] at e2
    exact e2
  obtain ⟨s0, rfl⟩ := hseen
  have hrun := run_entry_at (P := P) w g gm since s0 es since e b3 b6 e1 b7.2.1
  refine aA hM (v := .tuple #[e.key, e.val]) (by simp only [execOp, ho, hx, Sem.run_bind, hrun, Result.andThen_ok, Sem.run_pure]) ?_
  exact ⟨e.key, [e.val], rfl, e3, ⟨e.val, [], rfl, e4, rfl⟩⟩
theorem Hw (hD : DOk P D) (hM : MemOk P G w) {tx : TypeId} {x lo : Operand} (ho : o.op = .slice tx x (some lo) none none) {e : Ty} (ht : D.ty tx = some (.slc e)) {j : Nat} {e0 : Ty} (hk : KV P G w tm (.sl j e0) (a.eval x)) {xs : List (den e)} (hb : an G.b j = some (.row e xs))
    {l : Int} {kk : IntKind} (hl : a.eval lo = .int kk l) (hc : bP l (ln xs) (ln xs)) {id : Nat} (hf : aR G.b id = true) : aj P o a G w tm (.sl id e) [(j, .dead), (id, .live (.row e (xs.drop l.toNat)))] := by
  have hbl := ao hb
  obtain ⟨ei, hun, hte, hse⟩ := aV (hD.fit ht).shape
  have hsz := (hD.fit hte).sizeOf w
  obtain ⟨c1, c2, c3⟩ := hc
  have c2 : l ≤ (xs.length : Int) := c2
  obtain ⟨_, hx⟩ := hk
  have hne : id ≠ j := fun e => by rw [e] at hf; rw [bL hf] at hbl; cases hbl
  have fin : ∀ (aa : Option Addr) (cap : Nat) (g : Option Nat), G.hd j = .slice aa xs.length cap → xs.length ≤ cap → (g = none ∨ g = G.bk j) →
      (∀ G', G.Ext w G' w → G'.hd id = .slice (if cap = l.toNat then aa else aa.map (·.add (l.toNat * siz e))) (xs.length - l.toNat) (cap - l.toNat) → G'.bk id = g → fo P G' w id (.row e (xs.drop l.toNat))) →
      aj P o a G w tm (.sl id e) [(j, .dead), (id, .live (.row e (xs.drop l.toNat)))] := by
    intro aa cap g hh hcap hg hbx
    have hbd := iN (P := P) (w := w) (isS := true) (len := xs.length) (cap := cap) (lo := some (.int kk l)) (hi := none) (l := l) (h := (xs.length : Int)) (.inr ⟨kk, rfl⟩) (.inl ⟨rfl, rfl⟩) ⟨c1, c2, by simp; omega⟩
    have hsw := hM.swap (w' := w) (j := some j) (id := id) (h := .slice (if cap = l.toNat then aa else aa.map (·.add (l.toNat * siz e))) (xs.length - l.toNat) (cap - l.toNat)) (g := g) (x := .row e (xs.drop l.toNat)) (gj := G.bk j) (bL hf)
      (fun i hi => by cases hi; exact ⟨⟨_, hbl⟩, rfl⟩) (fun h => by cases h) rfl (.refl w) rfl (Nat.le_refl _) (fun _ _ _ => rfl) (hg.elim .inl (fun h => .inr (.inl h))) hbx
    refine bl (v := .slice (if cap = l.toNat then aa else aa.map (·.add (l.toNat * siz e))) (xs.length - l.toNat) (cap - l.toNat)) ?_ ?_ hsw.2 hsw.1 ⟨⟨.row e (xs.drop l.toNat), .inl (by simp [Gst.swap])⟩, by simp [Gst.swap]⟩
    · have hlen : ((xs.length : Nat) : Int).toNat = xs.length := by simp
      simp only [execOp, ho, hx, hh, Instr.sliceAt, Instr.slice, Sem.run_bind, run_underlying hun, Result.andThen_ok, Option.map_none, Option.map_some, hl, hbd, hsz, Sem.run_pure, hlen]
    · funext n
      simp only [Gst.swap, aD]
      by_cases e1 : n = id
      · subst e1; simp
      · by_cases e2 : n = j
        · subst e2; simp [e1]
        · have : ¬ some n = some j := fun h => e2 (Option.some.inj h)
          simp [e1, e2, this]
  have hbx := hM.box j _ hbl
  rcases hbx with ⟨rfl, b1, aa, b2⟩ | ⟨g, arr, eid, off, sp, b1, b2, b3, b4, b5, b6, b7⟩
  · have hl0 : l.toNat = 0 := by simp at c2; omega
    refine fin aa 0 none b2 (Nat.le_refl _) (.inl rfl) fun G' hE e1 e2 => .inl ⟨by simp, e2, aa, ?_⟩
    rw [e1, hl0]; rfl
  · have hle : xs.length ≤ (xs ++ sp).length := by simp
    by_cases hcap : (xs ++ sp).length = l.toNat
    · refine fin _ _ none b2 hle (.inl rfl) fun G' hE e1 e2 => .inl ⟨List.drop_of_length_le (by omega), e2, some ⟨g, off, none⟩, ?_⟩
      rw [e1, if_pos hcap, hcap, Nat.sub_self]
      congr 1
      omega
    · refine fin _ _ (some g) b2 hle (.inr b1.symm) fun G' hE e1 e2 => .inr ⟨g, arr, eid, off + l.toNat * siz e, sp, e2, ?_, by unfold Gst.nb; rw [hE.w0, hE.own]; exact b3, b4, ?_, ?_, ?_⟩
      · rw [e1, if_neg hcap]
        simp only [Option.map_some, cL, List.length_append, List.length_drop]
        congr 1
        omega
      · simp only [List.length_append, List.length_drop] at b5 ⊢; omega
      · have : (xs.drop l.toNat ++ sp).length * siz e + l.toNat * siz e = (xs ++ sp).length * siz e := by
          rw [← Nat.add_mul]; congr 1; simp only [List.length_append, List.length_drop]; omega
        omega
      · have hlenL : ((arr.toList.drop off).take ((xs ++ sp).length * siz e)).length = (xs ++ sp).length * siz e := by
          have hA : arr.toList.length = arr.size := Array.length_toList
          rw [List.length_take, List.length_drop, hA]; omega
        have r := RepAll.take_drop l.toNat (xs ++ sp).length (Nat.le_refl _) hlenL b7
        have t1 : (xs ++ sp).take (xs ++ sp).length = xs ++ sp := List.take_length
        have t2 : ((arr.toList.drop off).take ((xs ++ sp).length * siz e)).take ((xs ++ sp).length * siz e) = (arr.toList.drop off).take ((xs ++ sp).length * siz e) := by rw [List.take_take, Nat.min_self]
        rw [t1, t2, List.drop_append_of_le_length (by omega)] at r
        have hdt : ((arr.toList.drop off).take ((xs ++ sp).length * siz e)).drop (l.toNat * siz e) = (arr.toList.drop (off + l.toNat * siz e)).take ((xs.drop l.toNat ++ sp).length * siz e) := by
          rw [List.drop_take, List.drop_drop]
          congr 1
          rw [← Nat.sub_mul]; congr 1; simp only [List.length_append, List.length_drop]; omega
        rw [hdt] at r
        exact r.imp fun _ _ q => q.lat hE.lat
theorem E3 {G : Gst} {e : Ty} {v : Vw e} {val : Value} {n0 : Nat} {sp : List (den e)} (hvo : CL P G w e v val n0 sp) (hok : v.ok) :
    (∃ a', v.part = [] ∧ val = .slice a' 0 0) ∨ ∃ g arr eid off sp', G.bk v.id = some g ∧ val = .slice (some ⟨g, off, none⟩) v.part.length (v.part ++ sp').length ∧ G.nb g ∧ RowObj e w.heap[g]? arr eid ∧
      (v.part ++ sp').length ≤ maxLen ∧ off + (v.part ++ sp').length * siz e ≤ arr.size ∧ RepAll (Rep P e .cells G.av w) (siz e) ((arr.toList.drop off).take ((v.part ++ sp').length * siz e)) (v.part ++ sp') := by
  obtain ⟨a', hval, hle, hnone, hsome⟩ := hvo.val
  unfold Vw.ok at hok
  have hplen : v.part.length = v.n := by unfold Vw.part; simp; omega
  by_cases hlt : v.lo < (v.kn ++ sp).length
  · rcases hvo.row.row with ⟨h1, _⟩ | ⟨g, arr, eid, off, hk, hh, hnb, hg, hn, hm, hs, hrp⟩
    · have := congrArg List.length h1; simp only [List.length_nil] at this; omega
    · right
      have hA : arr.toList.length = arr.size := Array.length_toList
      have hfull : ((arr.toList.drop off).take ((v.kn ++ sp).length * siz e)).length = (v.kn ++ sp).length * siz e := by rw [List.length_take, List.length_drop, hA]; omega
      have hx := hrp.take_drop v.lo (v.kn ++ sp).length (Nat.le_refl _) hfull
      rw [List.take_of_length_le (Nat.le_refl _), List.take_of_length_le (by rw [hfull]; exact Nat.le_refl _)] at hx
      have hdrop : (v.kn ++ sp).drop v.lo = v.part ++ (v.kn ++ sp).drop (v.lo + v.n) := by
        unfold Vw.part
        rw [← List.drop_drop]
        have e1 : ((v.kn.drop v.lo).take v.n) = ((v.kn ++ sp).drop v.lo).take v.n := by
          rw [List.drop_append_of_le_length (by omega), List.take_append_of_le_length (by simp; omega)]
        rw [e1, List.take_append_drop]
      have hlen2 : (v.part ++ (v.kn ++ sp).drop (v.lo + v.n)).length = (v.kn ++ sp).length - v.lo := by rw [← hdrop, List.length_drop]
      have hmul : v.lo * siz e + ((v.kn ++ sp).length - v.lo) * siz e = (v.kn ++ sp).length * siz e := by rw [← Nat.add_mul]; congr 1; omega
      refine ⟨g, arr, eid, off + v.lo * siz e, (v.kn ++ sp).drop (v.lo + v.n), hk, ?_, hnb, hg, ?_, ?_, ?_⟩
      · rw [hval, hsome g off hk hh hlt, hplen, hlen2]
      · rw [hlen2]; omega
      · rw [hlen2]; omega
      · rw [hlen2, ← hdrop]
        have e5 : (arr.toList.drop (off + v.lo * siz e)).take (((v.kn ++ sp).length - v.lo) * siz e) = ((arr.toList.drop off).take ((v.kn ++ sp).length * siz e)).drop (v.lo * siz e) := by
          rw [List.drop_take, List.drop_drop, Nat.sub_mul]
        rw [e5]
        exact hx
  · left
    have h1 : v.n = 0 := by omega
    refine ⟨a', List.eq_nil_of_length_eq_zero (by omega), ?_⟩
    rw [hval, h1, Nat.sub_eq_zero_of_le (by omega)]
theorem Lk {ch ch' : Chg} : ∀ {b : Nat → BS}, aD (aD b ch) ch' = aD b (ch ++ ch') := by
 induction ch with
 | nil => intro b; rfl
 | cons x l ih => intro b; exact ih
theorem MB (hM : MemOk P G w) {k q : K} {v : Value} (hk : KV P G w tm k v) {id : Nat} {ch : Chg} {ps : List Prop} (h : rF G.b id k = some (q, ch, ps)) (hp : ∀ p ∈ ps, p) :
    ∃ G1, G1.b = aD G.b ch ∧ G.Ext w G1 w ∧ MemOk P G1 w ∧ KV P G1 w tm q v := by
  unfold rF at h
  split at h
  · rename_i j e lo n
    split at h
    · rename_i e' xs hl
      split at h
      · rename_i xs' hc
        split at h
        · rename_i hf
          obtain ⟨ee, rfl⟩ := AU hc
          injection ee with ee
          subst ee
          have h := Option.some.inj h
          injection h with h1 h2
          injection h2 with h2 h3
          subst h1; subst h2; subst h3
          have hok : lo + n ≤ xs.length := hp _ (List.mem_singleton.2 rfl)
          have hv : dI G.b e' (.vw j e' lo n) = some ⟨j, lo, n, xs⟩ := by
            unfold dI g6
            simp only [if_true]
            rw [hl]
            simp [dS]
          obtain ⟨n0, sp, hvo⟩ := jC hM hk hv
          have hpart : Vw.part ⟨j, lo, n, xs⟩ = (xs.drop lo).take n := rfl
          have hbl := ao hl
          have hne : id ≠ j := fun e => by rw [e] at hf; rw [bL hf] at hbl; cases hbl
          have fin : ∀ (g : Option Nat), (g = none ∨ g = G.bk j) → (∀ G', G.Ext w G' w → G'.hd id = v → G'.bk id = g → fo P G' w id (.row e' ((xs.drop lo).take n))) →
              ∃ G1, G1.b = aD G.b [(j, .dead), (id, .live (.row e' ((xs.drop lo).take n)))] ∧ G.Ext w G1 w ∧ MemOk P G1 w ∧ KV P G1 w tm (.sl id e') v := by
            intro g hg hbx
            have hsw := hM.swap (w' := w) (j := some j) (id := id) (h := v) (g := g) (x := .row e' ((xs.drop lo).take n)) (gj := G.bk j) (bL hf)
              (fun i hi => by cases hi; exact ⟨⟨_, hbl⟩, rfl⟩) (fun h => by cases h) rfl (.refl w) rfl (Nat.le_refl _) (fun _ _ _ => rfl) (hg.elim .inl (fun h => .inr (.inl h))) hbx
            refine ⟨_, ?_, hsw.2, hsw.1, ⟨⟨.row e' ((xs.drop lo).take n), .inl (by simp [Gst.swap])⟩, by simp [Gst.swap]⟩⟩
            funext m
            simp only [Gst.swap, aD]
            by_cases e1 : m = id
            · subst e1; simp
            · by_cases e2 : m = j
              · subst e2; simp [e1]
              · have : ¬ some m = some j := fun h => e2 (Option.some.inj h)
                simp [e1, e2, this]
          rcases E3 hvo hok with ⟨a', e1, e2⟩ | ⟨g, arr, eid, off, sp', q1, q2, q3, q4, q5, q6, q7⟩
          · rw [hpart] at e1
            exact fin none (.inl rfl) fun G' hE h1 h2 => .inl ⟨e1, h2, a', by rw [h1]; exact e2⟩
          · rw [hpart] at q2 q5 q6 q7
            exact fin (some g) (.inr q1.symm) fun G' hE h1 h2 => .inr ⟨g, arr, eid, off, sp', h2, by rw [h1]; exact q2, by unfold Gst.nb; rw [hE.w0, hE.own]; exact q3, q4, q5, q6, q7.imp fun _ _ r => r.lat hE.lat⟩
        · cases h
      · cases h
    · cases h
  · cases h
theorem EY {G1 : Gst} {k : K} {ch ch1 : Chg} (hb : G1.b = aD G.b ch) (hE : G.Ext w G1 w) (h : aj P o a G1 w tm k ch1) : aj P o a G w tm k (ch ++ ch1) := by
 intro next Q hn
 refine h next Q fun G' w' v e1 e2 e3 e4 => hn G' w' v ?_ (hE.trans e2) e3 e4
 rw [e1, hb, Lk]
theorem I2 (hD : DOk P D) (hM : MemOk P G w) {tx : TypeId} {x hi : Operand} (ho : o.op = .slice tx x none (some hi) none) {e : Ty} (ht : D.ty tx = some (.slc e)) {j : Nat} {e0 : Ty} (hk : KV P G w tm (.sl j e0) (a.eval x)) {xs : List (den e)} (hb : an G.b j = some (.row e xs))
    {h : Int} {kk : IntKind} (hh : a.eval hi = .int kk h) (hc : bP 0 h (ln xs)) {id : Nat} (hf : aR G.b id = true) : aj P o a G w tm (.sl id e) [(j, .dead), (id, .live (.row e (xs.take h.toNat)))] := by
  have hbl := ao hb
  obtain ⟨ei, hun, hte, hse⟩ := aV (hD.fit ht).shape
  have hsz := (hD.fit hte).sizeOf w
  obtain ⟨_, c2, c3⟩ := hc
  have c3 : h ≤ (xs.length : Int) := c3
  obtain ⟨_, hx⟩ := hk
  have hne : id ≠ j := fun e => by rw [e] at hf; rw [bL hf] at hbl; cases hbl
  have fin : ∀ (aa : Option Addr) (cap : Nat) (g : Option Nat), G.hd j = .slice aa xs.length cap → xs.length ≤ cap → g = G.bk j →
      (∀ G', G.Ext w G' w → G'.hd id = .slice (if cap = 0 then aa else aa.map (·.add (0 * siz e))) h.toNat cap → G'.bk id = g → fo P G' w id (.row e (xs.take h.toNat))) →
      aj P o a G w tm (.sl id e) [(j, .dead), (id, .live (.row e (xs.take h.toNat)))] := by
    intro aa cap g hd hcap hg hbx
    have hbd := iN (P := P) (w := w) (isS := true) (len := xs.length) (cap := cap) (lo := none) (hi := some (.int kk h)) (l := 0) (h := h) (.inl ⟨rfl, rfl⟩) (.inr ⟨kk, rfl⟩) ⟨Int.le_refl _, c2, by omega⟩
    have hsw := hM.swap (w' := w) (j := some j) (id := id) (h := .slice (if cap = 0 then aa else aa.map (·.add (0 * siz e))) h.toNat cap) (g := g) (x := .row e (xs.take h.toNat)) (gj := G.bk j) (bL hf)
      (fun i hi => by cases hi; exact ⟨⟨_, hbl⟩, rfl⟩) (fun h => by cases h) rfl (.refl w) rfl (Nat.le_refl _) (fun _ _ _ => rfl) (.inr (.inl hg)) hbx
    refine bl (v := .slice (if cap = 0 then aa else aa.map (·.add (0 * siz e))) h.toNat cap) ?_ ?_ hsw.2 hsw.1 ⟨⟨.row e (xs.take h.toNat), .inl (by simp [Gst.swap])⟩, by simp [Gst.swap]⟩
    · have h0 : (0 : Int).toNat = 0 := rfl
      simp only [execOp, ho, hx, hd, Instr.sliceAt, Instr.slice, Sem.run_bind, run_underlying hun, Result.andThen_ok, Option.map_none, Option.map_some, hh, hbd, hsz, Sem.run_pure, h0, Nat.sub_zero]
    · funext n
      simp only [Gst.swap, aD]
      by_cases e1 : n = id
      · subst e1; simp
      · by_cases e2 : n = j
        · subst e2; simp [e1]
        · have : ¬ some n = some j := fun h => e2 (Option.some.inj h)
          simp [e1, e2, this]
  have hbx := hM.box j _ hbl
  have hh0 : h.toNat ≤ xs.length := by omega
  rcases hbx with ⟨rfl, b1, aa, b2⟩ | ⟨g, arr, eid, off, sp, b1, b2, b3, b4, b5, b6, b7⟩
  · have hl0 : h.toNat = 0 := by simpa using hh0
    refine fin aa 0 none b2 (Nat.le_refl _) b1.symm fun G' hE e1 e2 => .inl ⟨by simp, e2, aa, ?_⟩
    rw [e1, hl0]; rfl
  · have hle : xs.length ≤ (xs ++ sp).length := by simp
    have hts : xs.take h.toNat ++ (xs.drop h.toNat ++ sp) = xs ++ sp := by rw [← List.append_assoc, List.take_append_drop]
    refine fin _ _ (some g) b2 hle b1.symm fun G' hE e1 e2 => .inr ⟨g, arr, eid, off, xs.drop h.toNat ++ sp, e2, ?_, by unfold Gst.nb; rw [hE.w0, hE.own]; exact b3, b4, by rw [hts]; exact b5, by rw [hts]; exact b6, ?_⟩
    · rw [e1, hts, List.length_take, Nat.min_eq_left hh0]
      have : (⟨g, off, none⟩ : Addr).add (0 * siz e) = ⟨g, off, none⟩ := by rw [Nat.zero_mul]; rfl
      simp only [Option.map_some, this, ite_self]
    · rw [hts]
      exact b7.imp fun _ _ q => q.lat hE.lat
theorem JE (hD : DOk P D) (hM : MemOk P G w) {t : TypeId} {x : Operand} (ho : o.op = .sliceToArrayPointer t x) {n : Nat} {e : Ty} (ht : D.ty t = some (.arr n e)) {xs : List (den e)} (hk : KV P G w tm (.val (.slc e) xs) (a.eval x)) (h0 : 0 < n) (hn : n ≤ xs.length) :
    aj P o a G w tm (.ref (.arr n e) (xs.take n)) [] := by
  obtain ⟨ei, hun, hte, hse⟩ := iD (hD.fit ht).shape
  obtain ⟨cs, hv, aa, c, L, rfl, h2, h3, h4, h5, h6, h7⟩ := hk
  have hne : xs ≠ [] := fun e => by rw [e] at hn; exact absurd hn (by simp; omega)
  obtain ⟨ad, rfl, hO, hb, hc⟩ := h6 hne
  have hv : a.eval x = .slice (some ad) xs.length c := hv
  refine aA hM (v := .pointer (some ad)) ?_ ⟨ad, rfl, L.take (n * siz e), hO, hb, fun j u hj => ?_, ?_⟩
  · have hlt : ¬ xs.length < n := by omega
    have hn0 : n ≠ 0 := by omega
    simp [execOp, ho, hv, Instr.arrayAt, run_underlying hun, hlt, hn0]
  · rw [List.getElem?_take] at hj
    split at hj
    · exact hc j u hj
    · cases hj
  · refine ⟨by rw [List.length_take, Nat.min_eq_left hn], ?_⟩
    have := RepAll.take_drop 0 n hn h4 h5
    simpa using this
theorem Jb (hD : DOk P D) (hM : MemOk P G w) {tx : TypeId} {x hi : Operand} (ho : o.op = .slice tx x none (some hi) none) {e : Ty} (ht : D.ty tx = some (.slc e)) (hx : a.eval x = .slice none 0 0)
    {h : Int} {kk : IntKind} (hh : a.eval hi = .int kk h) (hc : bP 0 h 0) : aj P o a G w tm .nilsl [] := by
  obtain ⟨ei, hun, hte, hse⟩ := aV (hD.fit ht).shape
  have hsz := (hD.fit hte).sizeOf w
  obtain ⟨_, c2, c3⟩ := hc
  have e : h = 0 := by omega
  subst e
  have hbd := iN (P := P) (w := w) (isS := true) (len := 0) (cap := 0) (lo := none) (hi := some (.int kk 0)) (l := 0) (h := 0) (.inl ⟨rfl, rfl⟩) (.inr ⟨kk, rfl⟩) ⟨Int.le_refl _, Int.le_refl _, Int.le_refl _⟩
  refine aA hM (v := .slice none 0 0) ?_ rfl
  have h0 : (0 : Int).toNat = 0 := rfl
  simp only [execOp, ho, hx, Instr.sliceAt, Instr.slice, Sem.run_bind, run_underlying hun, Result.andThen_ok, Option.map_none, Option.map_some, hh, hbd, hsz, Sem.run_pure, h0, Nat.sub_zero, ite_self]
theorem JT (hD : DOk P D) (hM : MemOk P G w) {c : Call} (ho : o.op = .call c) (hc : c.callee = .builtin .cap) {x : Operand} (hx : c.args.toList = [x]) {at0 : TypeId} (h0 : c.argTypes[0]? = some at0) {e : Ty} (ht : D.ty at0 = some (.slc e)) (hk : a.eval x = .slice none 0 0) :
    aj P o a G w tm (.val ae 0) [] := by
  obtain ⟨ei, hun, _⟩ := aV (hD.fit ht).shape
  have hargs : c.args.map a.eval = #[a.eval x] := by
    apply Array.ext'
    rw [Array.toList_map, hx]
    rfl
  refine aA hM (v := .int .i64 0) ?_ (a7.2 ⟨rfl, ⟨by decide, by decide⟩⟩)
  rw [dM ho hc, hargs, hk]
  simp [builtin, Builtin.cap_, h0, run_underlying hun, goInt]
theorem yN (hD : DOk P D) (hM : MemOk P G w) {c : Call} (ho : o.op = .call c) (hc : c.callee = .builtin .append) {x y : Operand} (hx : c.args.toList = [x, y]) {t t' : TypeId} (h0 : c.argTypes = #[t, t']) {e : Ty} (ht : D.ty t = some (.slc e)) {ki : IntKind} (ht' : D.ty t' = some (.int ki)) (ev : a.eval x = .slice none 0 0)
    {n : Int} {kq : IntKind} (hy : a.eval y = .int kq n) (hpos : 0 < n) (hb : n.toNat ≤ bY) {id : Nat} (hf : aR G.b id = true) :
    aj P o a G w tm (.sl id e) [(id, .live (.row e (List.replicate n.toNat (zero e))))] := by
  obtain ⟨ei, hu, hte, hse⟩ := aV (hD.fit ht).shape
  have hfe := hD.fit hte
  obtain ⟨i, z, hi, hs, hby, hz, ez⟩ := hfe.info
  have hpl : plain e = true := (hD.fit ht).plain
  have hzc : z.cells = (aO e).toArray := by rw [ez]; exact bJ (bq e) (eI hfe) (eC P (fun _ => False) w e hpl).oneCell
  obtain ⟨k, rfl⟩ : ∃ k : Nat, n = (k : Int) := ⟨n.toNat, by omega⟩
  simp only [Int.toNat_natCast] at hb ⊢
  have hg : 0 < 0 + k := by omega
  have hb' : 0 + k ≤ bY := by omega
  have hbytes : (0 + k) * i.bytes ≤ 140737488355328 := Nat.le_trans (Nat.mul_le_mul hb' hby) (by decide)
  have hkb : k * i.bytes ≤ 281474976710656 := Nat.le_trans (Nat.mul_le_mul_right _ (Nat.le_add_left k 0)) (by omega)
  have h63 : ((0 + k : Nat) : Int) ≤ 9223372036854775807 := by unfold bY at hb; omega
  have hml : 0 + k ≤ maxLen := by unfold maxLen; unfold bY at hb; omega
  have hold : (Builtin.firstCells i.size 0 (.slice none 0 0)).run P w.drew = .ok #[] w.drew := by
    simp [Builtin.firstCells, loadCells, loadCellsFrom]
  have hr := Lib.run_append_grow_zeros (P := P) w t t' o.type ei i z kq ki hu (fk (hD.fit ht').shape) hi hz none 0 0 [] hold k (by omega) (by rw [hs]; omega) hg h63 hkb (growslice_fits hg hbytes)
  have hzk : Builtin.zeroCells z.cells k = ((List.replicate k (aO e)).flatten).toArray := by
    apply Array.ext'
    rw [hzc, jN]
  rw [hzk, hzc] at hr
  have hnew := uX (eid := ei) (e := e) (n := 0) (m := k) (cap := grownCap w (0 + k) 0 ei) (L0 := []) (L1 := (List.replicate k (aO e)).flatten) (Z := Builtin.zeroCells (aO e).toArray (grownCap w (0 + k) 0 ei - (0 + k))) (xs := []) (ys := List.replicate k (zero e)) (id := id) hM (by simp) (by simp [bq]) rfl (by simp) rfl (RepAll.replicate (bq e) (eC P _ _ e hpl) _) hpl (grownCap_ge w (0 + k) 0 ei) (grownCap_le_maxLen w (0 + k) 0 ei hml) (jN _)
  have hadd := hM.add (P := P) (w' := w.drew.alloc (.cells (#[] ++ ((List.replicate k (aO e)).flatten).toArray ++ Builtin.zeroCells (aO e).toArray (grownCap w (0 + k) 0 ei - (0 + k))) ei)) ((Kept.drew w).trans (Kept.alloc w.drew _)) (id := id) (g := w.heap.size) (h := .slice (some ⟨w.heap.size, 0, none⟩) (0 + k) (grownCap w (0 + k) 0 ei)) (x := .row e (List.replicate k (zero e))) (bL hf) (Nat.le_refl _) (fun G' hE hh hb _ => hnew G' hE hh hb)
  refine bl (v := .slice (some ⟨w.heap.size, 0, none⟩) (0 + k) (grownCap w (0 + k) 0 ei)) ?_ rfl hadd.2 hadd.1 ⟨⟨.row e _, .inl (by simp [Gst.add]; rfl)⟩, by simp [Gst.add]⟩
  have hrun := dM (P := P) (w := w) (a := a) ho hc
  have hargs : c.args.map a.eval = #[a.eval x, a.eval y] := by
    apply Array.ext'
    rw [Array.toList_map, hx]
    rfl
  rw [hrun, hargs, h0, ev, hy]
  simp only [builtin, Sem.run_bind, hr, Result.andThen_ok, Sem.run_pure]
theorem tU (hD : DOk P D) (hM : MemOk P G w) {tx ty : TypeId} {x y : Operand} {neq : Bool} (ho : o.op = .binOp (if neq then .neq else .eql) tx x y ty) {k v : Ty} (ht : D.ty tx = some (.mp k v)) {r : Option Nat} (hx : a.eval x = .map r) (hy : a.eval y = .map none) :
    aj P o a G w tm (.val .bool (if neq then !r.isNone else r.isNone)) [] := by
  obtain ⟨kid, vid, hu, _, _⟩ := vS (hD.fit ht).shape
  refine aA hM (v := .bool (if neq then !r.isNone else r.isNone)) ?_ (bv.2 rfl)
  have hg := fj (P := P) (w := w) (if neq then .neq else .eql) tx x y (vx := .map r) (vy := .map none) (fun _ _ e => by cases e) (by simp)
  have h9 : ∀ d : Nat, (Op.equalIn (d + 1) tx (.map r) (.map none)).run P w = .ok r.isNone w := fun d => by
    cases r <;> simp [Op.equalIn, run_underlying hu]
  have he : (Op.equal tx (.map r) (.map none)).run P w = .ok r.isNone w := by
    simp [Op.equal, Op.maxDepth, h9 9999]
  have h1 : (binOp .eql tx (.map r) (.map none)).run P w = .ok (.bool r.isNone) w := by simp [binOp, he]
  have h2 : (binOp .neq tx (.map r) (.map none)).run P w = .ok (.bool (!r.isNone)) w := by simp [binOp, he]
  cases neq
  · simp only [Bool.false_eq_true, if_false] at *
    simp only [execOp, ho, hx, hy, Sem.run_bind, hg, Result.andThen_ok, h1, Sem.run_pure]
  · simp only [if_true] at *
    simp only [execOp, ho, hx, hy, Sem.run_bind, hg, Result.andThen_ok, h2, Sem.run_pure]
theorem py (hX : cQ P D) (hM : MemOk P G w) {r : Operand → K} (hr : ∀ x, KV P G w tm (r x) (a.eval x)) {id : Nat} {q : Eff} (h : dN D o r G.b id = some q) : Ma P o a G w tm q := by
 have hD := hX.toDOk
 unfold dN at h
 split at h
 ·
  rename_i e ho
  split at h
  ·rename_i bd ht
   split at h
   ·rename_i hf
    cases h
    exact fun _ => G9 hD hM ho ht hf
   ·cases h
  ·rename_i el ht
   split at h
   ·rename_i hf
    rw [Bool.and_eq_true] at hf
    cases h
    exact fun _ => He hD hM ho ht hf.2
   ·cases h
  ·cases h
 ·
  rename_i e x ho
  split at h
  ·rename_i bd bd' c ht hx
   split at h
   ·rename_i eb
    subst eb
    split at h
    ·rename_i hf
     rw [Bool.and_eq_true] at hf
     cases h
     have hkx := hr x
     rw [hx] at hkx
     exact fun _ => JY hD hM ho ht hf.1 hf.2 hkx
    ·cases h
   ·cases h
  ·rename_i el ht
   split at h
   ·rename_i hf
    simp only [Bool.and_eq_true] at hf
    cases h
    exact fun _ => KG hM ho hf.1.1.2 hf.1.2 hf.2 (hr x)
   ·cases h
  ·cases h
 ·
  rename_i e parts ho
  split at h
  ·rename_i bd ht
   split at h
   ·rename_i c hc
    cases h
    exact fun _ => HS hD hM ho ht hr hc
   ·cases h
  ·cases h
 ·
  rename_i t x ho
  split at h
  ·rename_i u i base p ht hx
   split at h
   ·rename_i t0 k hl
    split at h
    ·rename_i e0
     subst e0
     split at h
     ·rename_i hta
      split at h
      ·rename_i k' hn
       cases h
       have hkx := hr x
       rw [hx] at hkx
       exact fun _ => Jk hD hM ht ho hkx hl hta hn
      ·cases h
     ·cases h
    ·cases h
   ·cases h
  ·cases h
 ·
  rename_i t x v ho
  have st : ∀ {G1 : Gst} {q : K} {c : Nat × BS}, MemOk P G1 w → (∀ y, KV P G w tm (r y) (a.eval y) → KV P G1 w tm (r y) (a.eval y)) → KV P G1 w tm q (a.eval v) → jQ D t (r x) q G1.b = some c → aj P o a G1 w tm .any [c] := by
   intro G1 q c hM1 hk1 hq hc
   unfold jQ at hc
   split at hc
   ·rename_i u i base p ht hx
    split at hc
    ·rename_i t0 k hl
     split at hc
     ·rename_i e0
      subst e0
      split at hc
      ·rename_i hta
       split at hc
       ·rename_i hfit
        rw [Bool.and_eq_true] at hfit
        split at hc
        ·rename_i k' hn
         cases hc
         have hkx := hk1 x (hr x)
         rw [hx] at hkx
         exact HK hD hM1 ht ho hkx hq hfit.1 hfit.2 hl hta hn
        ·cases hc
       ·cases hc
      ·cases hc
     ·cases hc
    ·cases hc
   ·cases hc
  split at h
  ·rename_i q ch ps hu
   split at h
   ·rename_i c hc
    cases h
    intro hp
    obtain ⟨G1, e1, e2, e3, e4⟩ := MB hM (hr v) hu hp
    exact EY e1 e2 (st e3 (fun y hy => hy.ext e2) e4 (by rw [e1]; exact hc))
   ·cases h
  ·split at h
   ·rename_i c hc
    cases h
    exact fun _ => st hM (fun y hy => hy) (hr v) hc
   ·cases h
 ·
  rename_i t ho
  split at h
  ·split at h
   ·rename_i hf
    cases h
    exact fun _ => Kc hM ho hf
   ·cases h
  ·cases h
 ·
  rename_i t x i ok ho
  split at h
  ·rename_i k v ht
   split at h
   ·rename_i hkt
    split at h
    ·rename_i l y hl hy
     cases h
     exact fun _ => Ls hD hM ho ht hkt (hr x) hl (cp (hr i) hy)
    ·cases h
   ·cases h
  ·cases h
 ·
  rename_i t x i v ho
  split at h
  ·rename_i kt vt ht
   split at h
   ·rename_i hkt
    split at h
    ·rename_i j hx
     split at h
     ·rename_i l y z hl hy hz
      cases h
      have hkx := hr x
      rw [hx] at hkx
      exact fun _ => zB hD hM (.inl ho) ht hkt hkx hl (cp (hr i) hy) (cp (hr v) hz)
     ·cases h
    ·cases h
   ·cases h
  ·cases h
 ·
  rename_i t x i v ho
  split at h
  ·rename_i kt vt ht
   split at h
   ·rename_i hkt
    split at h
    ·rename_i j hx
     split at h
     ·rename_i l y z hl hy hz
      cases h
      have hkx := hr x
      rw [hx] at hkx
      exact fun _ => zB hD hM (.inr ho) ht hkt hkx hl (cp (hr i) hy) (cp (hr v) hz)
     ·cases h
    ·cases h
   ·cases h
  ·cases h
 ·
  rename_i op tx x y ty ho
  split at h
  ·rename_i k v ht hy
   have hky := hr y
   rw [hy] at hky
   have hky : a.eval y = .map none := hky
   have hkx := hr x
   split at h
   ·rename_i hx
    cases h
    rw [hx] at hkx
    exact fun _ => tU hD hM (neq := false) ho ht (r := none) hkx hky
   ·rename_i j hx
    cases h
    rw [hx] at hkx
    obtain ⟨_, g, _, e⟩ := hkx
    exact fun _ => tU hD hM (neq := false) ho ht (r := some g) e hky
   ·rename_i hx
    cases h
    rw [hx] at hkx
    exact fun _ => tU hD hM (neq := true) ho ht (r := none) hkx hky
   ·rename_i j hx
    cases h
    rw [hx] at hkx
    obtain ⟨_, g, _, e⟩ := hkx
    exact fun _ => tU hD hM (neq := true) ho ht (r := some g) e hky
   ·cases h
  ·cases h
 ·
  rename_i tx x lo ho
  split at h
  ·rename_i e j e0 l ht hx hl
   split at h
   ·rename_i e' xs hlive
    split at h
    ·rename_i xs' hc
     split at h
     ·rename_i hf
      cases h
      obtain ⟨ee, rfl⟩ := AU hc
      injection ee with ee
      subst ee
      have hkx := hr x
      rw [hx] at hkx
      obtain ⟨kk, hlo⟩ := js (hr lo) hl
      exact fun hp => Hw hD hM ho ht hkx hlive hlo (hp _ (by simp)) hf
     ·cases h
    ·cases h
   ·cases h
  ·cases h
 ·
  rename_i tx x hi ho
  split at h
  ·rename_i e n ht hn
   obtain ⟨kk, hhi⟩ := js (hr hi) hn
   have hkx := hr x
   split at h
   ·rename_i hx
    cases h
    rw [hx] at hkx
    exact fun hp => Jb hD hM ho ht hkx hhi (hp _ (by simp))
   ·rename_i j e0 hx
    rw [hx] at hkx
    split at h
    ·rename_i e' xs hlive
     split at h
     ·rename_i xs' hc
      split at h
      ·rename_i hf
       cases h
       obtain ⟨ee, rfl⟩ := AU hc
       injection ee with ee
       subst ee
       exact fun hp => I2 hD hM ho ht hkx hlive hhi (hp _ (by simp)) hf
      ·cases h
     ·cases h
    ·cases h
   ·cases h
  ·cases h
 ·
  rename_i t x ho
  split at h
  ·rename_i k v j ht hx
   split at h
   ·rename_i l hl
    split at h
    ·rename_i hf
     cases h
     have hkx := hr x
     rw [hx] at hkx
     exact fun _ => M1 hM ho ht hD hkx hl hf
    ·cases h
   ·cases h
  ·cases h
 ·
  rename_i x ho
  split at h
  ·rename_i j hx
   split at h
   ·rename_i k v left cur hl
    cases h
    have hkx := hr x
    rw [hx] at hkx
    exact Nx hM ho hkx hl
   ·cases h
  ·cases h
 ·
  rename_i x ho
  split at h
  ·rename_i j hx
   split at h
   ·rename_i k v left cur hl
    cases h
    have hkx := hr x
    rw [hx] at hkx
    exact fun hp => MA hM ho hkx hl (hp _ (by simp))
   ·cases h
  ·cases h
 ·
  rename_i t l c ho
  split at h
  ·rename_i e kl n kc m ht hl hc
   obtain ⟨k1, e1⟩ := js (hr l) (show gS (r l) = some n by rw [hl]; rfl)
   obtain ⟨k2, e2⟩ := js (hr c) (show gS (r c) = some m by rw [hc]; rfl)
   split at h
   ·split at h
    ·split at h
     ·rename_i hf
      cases h
      intro hp
      have em : (m : Int) = n := hp _ (by simp)
      subst em
      exact IA hD hM ho ht e1 e2 (hp ((0 : Int) ≤ m) (by simp)) (hp (Int.toNat m * siz e ≤ 16777216) (by simp)) hf
     ·cases h
    ·cases h
     intro hp
     have em : (m : Int) = n := hp _ (by simp)
     subst em
     exact JA hD hM ho ht e1 e2 (hp ((0 : Int) ≤ m) (by simp)) (hp (Int.toNat m * siz e ≤ 16777216) (by simp))
   ·cases h
  ·cases h
 ·
  rename_i src dst x ho
  split at h
  ·rename_i s hs ht hx
   have hkx := hr x
   rw [hx] at hkx
   split at h
   ·split at h
    ·split at h
     ·rename_i hf
      cases h
      exact fun hp => G2 hD hM ho hs ht hkx (hp _ (by simp)) hf
     ·cases h
    ·cases h
     exact fun hp => GN hD hM ho hs ht hkx (hp _ (by simp))
   ·cases h
  ·rename_i j e' hs ht hx
   have hkx := hr x
   rw [hx] at hkx
   split at h
   ·rename_i xs hl
    cases h
    exact fun _ => KY hD hM ho hs ht hkx hl
   ·cases h
  ·cases h
 ·
  rename_i t x ho
  split at h
  ·rename_i n e e' xs ht hx
   split at h
   ·rename_i hc
    obtain ⟨rfl, h0⟩ := hc
    cases h
    have hkx := hr x
    rw [hx] at hkx
    exact fun hp => JE hD hM ho ht hkx h0 (hp _ (by simp))
   ·cases h
  ·cases h
 ·
  rename_i c ho
  split at h
  ·rename_i hc
   split at h
   ·rename_i x e hx ht
    have hkx := hr x
    split at h
    ·rename_i hn
     cases h
     rw [hn] at hkx
     obtain ⟨at0, h0, ht⟩ := Option.bind_eq_some_iff.1 ht
     exact fun _ => JT hD hM ho hc hx h0 ht hkx
    ·cases h
   ·cases h
  ·rename_i hc
   split at h
   ·rename_i x y t t' hx h0
    have hkx := hr x
    split at h
    ·rename_i e ki n ht ht' hn hy
     split at h
     ·rename_i hf
      cases h
      rw [hn] at hkx
      obtain ⟨kk, hyy⟩ := js (hr y) hy
      exact fun hp => yN hD hM ho hc hx (by apply Array.ext'; simpa using h0) ht ht' hkx hyy (hp _ (by simp)) (hp (Int.toNat n ≤ bY) (by simp)) hf
     ·cases h
    ·cases h
   ·cases h
  ·cases h
 ·cases h
theorem ly {q : Option Eff} {k : K} {ch : Chg} {ps : List Prop} (h : Dn q = some (k, ch, ps)) : q = some (.one k ch ps) := by
 unfold Dn at h
 split at h
 ·simp only [Option.some.injEq, Prod.mk.injEq] at h
  obtain ⟨rfl, rfl, rfl⟩ := h
  rfl
 ·cases h
theorem zW (hX : cQ P D) (hh : eR D = true) (hM : MemOk P G w) (hgl : GlobOk P D.G G.av w) {r : Operand → K} (hr : ∀ x, KV P G w tm (r x) (a.eval x)) {id : Nat} {k : K} {ch : Chg} {ps : List Prop} (h : gf D o r G.b id = some (k, ch, ps)) (hp : ∀ p ∈ ps, p) : aj P o a G w tm k ch := by
 unfold gf at h
 split at h
 ·exact py hX hM hr (ly h) hp
 ·split at h
  ·rename_i q hv
   have e := Option.some.inj h
   subst e
   exact Hi hX hh hM hgl hr hv hp
  ·split at h
   ·exact py hX hM hr (ly h) hp
   ·cases h
end
end Go.Proofs.Ytimdnodkabnbfaa
