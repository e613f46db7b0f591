/- Part 8 of 8 of what this claim's proof stands on: a theory of programs on data, and the contracts of the functions that the law reaches. It holds no condition of its own. -/
import Derived.Test.YtnccacngedeoeaaCS7

/- The trees of functions' bodies, as the evaluator prints them. -/
namespace Go.Proofs.Ytnccacngedeoeaa
open Go Go.RowKit

noncomputable abbrev fx_l14_alive : Fx := { fn := f_l14_alive, ann := { }, share := true }
noncomputable abbrev X_l14_alive : TabX := { D := { T := tyTab, F := [(n_spread_Deliver, S_spread_Deliver)], R := [], ovl := [] }, inl := [] }
noncomputable abbrev M_l14_alive : RMode := .data rs_l14_alive
theorem x_l14_alive (h_spread_Deliver : FnOk prog [] n_spread_Deliver S_spread_Deliver) : XOk prog X_l14_alive := xok (dok_add (dok_nil tab_ok mixed_ok) h_spread_Deliver) (by kernel_rfl) rows_nil inl_nil ovl_nil
noncomputable def T_l14_alive : TreeS :=
  TreeS.req
  ((0 : Nat) ≤ 1000000 ∧
    List.length
        (List.set (List.replicate 1 (zero tEntry)) 0
          (2, Prod.fst (Prod.snd (zero (Ty.pair tInt (Ty.pair tId (Ty.pair tInt Ty.unit))))), 3,
            Prod.snd (Prod.snd (Prod.snd (zero (Ty.pair tInt (Ty.pair tId (Ty.pair tInt Ty.unit)))))))) ≤
      1000000)
  (TreeS.all (den (Ty.pair tSpread (Ty.pair tInt Ty.unit)))
    (fun (q0 : den (Ty.pair tSpread (Ty.pair tInt Ty.unit))) ↦
      q0 =
        g_Deliver []
          (List.set (List.replicate 1 (zero tEntry)) 0
              (2, Prod.fst (Prod.snd (zero (Ty.pair tInt (Ty.pair tId (Ty.pair tInt Ty.unit))))), 3,
                Prod.snd (Prod.snd (Prod.snd (zero (Ty.pair tInt (Ty.pair tId (Ty.pair tInt Ty.unit))))))),
            Prod.snd (zero (Ty.pair (Ty.slc tEntry) (Ty.pair tInt (Ty.pair Ty.str Ty.unit))))))
    fun (q0 : den (Ty.pair tSpread (Ty.pair tInt Ty.unit))) ↦
    TreeS.req
      (impl
        [(bif decide (Prod.fst (Prod.snd q0) = 0) then decide (lnx tInt (Prod.fst (Prod.fst q0)) = 1) else false, true)]
        (inB 0 (lnx tInt (Prod.fst (Prod.fst q0)))))
      (TreeS.ret
        (K.val (Ty.pair Ty.bool Ty.unit)
          (bif
                bif
                    bif decide (Prod.fst (Prod.snd q0) = 0) then decide (lnx tInt (Prod.fst (Prod.fst q0)) = 1)
                    else false then
                  decide (el tInt (Prod.fst (Prod.fst q0)) 0 = 3)
                else false then
              decide (Prod.fst (Prod.snd (Prod.snd (Prod.snd (Prod.fst q0)))) = 1)
            else false,
            PUnit.unit))))
theorem T_l14_alive_eq : treeS X_l14_alive M_l14_alive 5000 [] fx_l14_alive (bodyOf f_l14_alive) (Env.of
  (argEnv as_l14_alive () 0) []) = T_l14_alive := by kernel_rfl

noncomputable abbrev fx_l14_SpreadParts : Fx := { fn := f_l14_SpreadParts, ann := { }, share := true }
noncomputable abbrev X_l14_SpreadParts : TabX := { D := { T := tyTab, F := [(n_l14_few, S_l14_few), (n_l14_cut, S_l14_cut), (n_spread_Deliver, S_spread_Deliver), (n_l14_alive, S_l14_alive), (n_table_Match, S_table_Match), (n_r14_Same, S_r14_Same)], R := [], ovl := [] }, inl := [] }
noncomputable abbrev M_l14_SpreadParts : RMode := .data rs_l14_SpreadParts
theorem x_l14_SpreadParts (h_l14_few : FnOk prog [] n_l14_few S_l14_few) (h_l14_cut : FnOk prog [] n_l14_cut S_l14_cut) (h_spread_Deliver : FnOk prog [] n_spread_Deliver S_spread_Deliver) (h_l14_alive : FnOk prog [] n_l14_alive S_l14_alive) (h_table_Match : FnOk prog [] n_table_Match S_table_Match) (h_r14_Same : FnOk prog [] n_r14_Same S_r14_Same) : XOk prog X_l14_SpreadParts := xok (dok_add (dok_add (dok_add (dok_add (dok_add (dok_add (dok_nil tab_ok mixed_ok) h_r14_Same) h_table_Match) h_l14_alive) h_spread_Deliver) h_l14_cut) h_l14_few) (by kernel_rfl) rows_nil inl_nil ovl_nil
noncomputable def T_l14_SpreadParts (t : den (Ty.slc tTrigger)) (p : den tPacket) : TreeS :=
  TreeS.req True
  (TreeS.req True
    (TreeS.all (den (Ty.slc tTrigger)) (fun (q2 : den (Ty.slc tTrigger)) ↦ q2 = g_few t)
      fun (q2 : den (Ty.slc tTrigger)) ↦
      TreeS.all (den tPacket) (fun (q3 : den tPacket) ↦ q3 = g_cut p) fun (q3 : den tPacket) ↦
        TreeS.req (List.length (g_few t) ≤ 1000000 ∧ List.length (Prod.fst (g_cut p)) ≤ 1000000)
          (TreeS.all (den (Ty.pair tSpread (Ty.pair tInt Ty.unit)))
            (fun (q4 : den (Ty.pair tSpread (Ty.pair tInt Ty.unit))) ↦ q4 = g_Deliver (g_few t) (g_cut p))
            fun (q4 : den (Ty.pair tSpread (Ty.pair tInt Ty.unit))) ↦
            TreeS.req
              (impl
                [(bif
                        bif !decide (Prod.fst (Prod.snd q4) = 0) then true
                        else decide (Prod.fst (Prod.snd (g_cut p)) = 0) then
                      true
                    else decide (lnx tEntry (Prod.fst (g_cut p)) < 2),
                    false)]
                (inB 0 (lnx tEntry (Prod.fst (g_cut p)))))
              (TreeS.ite
                (bif
                    bif
                        bif !decide (Prod.fst (Prod.snd q4) = 0) then true
                        else decide (Prod.fst (Prod.snd (g_cut p)) = 0) then
                      true
                    else decide (lnx tEntry (Prod.fst (g_cut p)) < 2) then
                  true
                else !decide (Prod.fst (el tEntry (Prod.fst (g_cut p)) 0) = 1))
                (TreeS.req True
                  (TreeS.all (den Ty.bool) (fun (q5 : den Ty.bool) ↦ q5 = true) fun (q5 : den Ty.bool) ↦
                    TreeS.ret (K.val (Ty.pair Ty.bool Ty.unit) (q5, PUnit.unit))))
                (TreeS.req (inB 0 (lnx tEntry (Prod.fst (g_cut p))))
                  (TreeS.req (List.length (g_few t) ≤ 1000000)
                    (TreeS.all (den (Ty.pair (Ty.slc tTrigger) (Ty.pair tInt Ty.unit)))
                      (fun (q5 : den (Ty.pair (Ty.slc tTrigger) (Ty.pair tInt Ty.unit))) ↦
                        q5 =
                          (Prod.fst (g_Match (g_few t) (Prod.fst (Prod.snd (el tEntry (Prod.fst (g_cut p)) 0)))),
                            Prod.snd (g_Match (g_few t) (Prod.fst (Prod.snd (el tEntry (Prod.fst (g_cut p)) 0)))),
                            PUnit.unit))
                      fun (q5 : den (Ty.pair (Ty.slc tTrigger) (Ty.pair tInt Ty.unit))) ↦
                      TreeS.ite (!decide (Prod.fst (Prod.snd q5) = 6))
                        (TreeS.req True
                          (TreeS.all (den Ty.bool) (fun (q6 : den Ty.bool) ↦ q6 = true) fun (q6 : den Ty.bool) ↦
                            TreeS.ret (K.val (Ty.pair Ty.bool Ty.unit) (q6, PUnit.unit))))
                        (TreeS.req (cutOk 1 (lnx tEntry (Prod.fst (g_cut p))) (lnx tEntry (Prod.fst (g_cut p))))
                          (TreeS.req
                            (List.length (g_few t) ≤ 1000000 ∧
                              List.length (lCutx tEntry (Prod.fst (g_cut p)) 1 (lnx tEntry (Prod.fst (g_cut p)))) ≤
                                1000000)
                            (TreeS.all (den (Ty.pair tSpread (Ty.pair tInt Ty.unit)))
                              (fun (q6 : den (Ty.pair tSpread (Ty.pair tInt Ty.unit))) ↦
                                q6 =
                                  g_Deliver (g_few t)
                                    (lCutx tEntry (Prod.fst (g_cut p)) 1 (lnx tEntry (Prod.fst (g_cut p))),
                                      IntKind.wrap IntKind.i64 (Prod.fst (Prod.snd (g_cut p)) - 1),
                                      Prod.snd (Prod.snd (g_cut p))))
                              fun (q6 : den (Ty.pair tSpread (Ty.pair tInt Ty.unit))) ↦
                              TreeS.req True
                                (TreeS.all (den Ty.bool) (fun (q7 : den Ty.bool) ↦ q7 = true) fun (q7 : den Ty.bool) ↦
                                  TreeS.req
                                    (impl [(bif q7 then decide (Prod.fst (Prod.snd q6) = 0) else false, true)]
                                      (List.length (Prod.fst (Prod.fst q4)) ≤ 1000000))
                                    (TreeS.ret
                                      (K.val (Ty.pair Ty.bool Ty.unit)
                                        (bif bif q7 then decide (Prod.fst (Prod.snd q6) = 0) else false then
                                            g_SameS (Prod.fst q4)
                                              (Prod.fst (Prod.fst q6), Prod.fst (Prod.snd (Prod.fst q6)),
                                                Prod.fst (Prod.snd (Prod.snd (Prod.fst q6))),
                                                IntKind.wrap IntKind.i64
                                                  (Prod.fst (Prod.snd (Prod.snd (Prod.snd (Prod.fst q6)))) + 1),
                                                Prod.snd (Prod.snd (Prod.snd (Prod.snd (Prod.fst q6)))))
                                          else false,
                                          PUnit.unit))))))))))))))
theorem T_l14_SpreadParts_eq (t : den (Ty.slc tTrigger)) (p : den tPacket) : treeS X_l14_SpreadParts M_l14_SpreadParts 5000 [] fx_l14_SpreadParts (bodyOf f_l14_SpreadParts) (Env.of
  (argEnv as_l14_SpreadParts (t, p, ()) 0) []) = T_l14_SpreadParts t p := by kernel_rfl

end Go.Proofs.Ytnccacngedeoeaa

/- A packet comes where it does without an entry that matches nothing: the law. -/
namespace Go.Proofs.Ytnccacngedeoeaa
open Go Go.RowKit

def alivePk : Pk := ([((2 : Int), List.replicate 32 (0 : Int), (3 : Int), ())], (0 : Int), { data := { toList := [] } }, ())
theorem alive_is : g_Deliver [] alivePk = (([3], 0, 0, 1, ()), 0, ()) := by kernel_rfl
theorem k_l14_alive : FnOk prog [] n_l14_alive S_l14_alive :=
  fnS_T (S := S_l14_alive) (x_l14_alive k_spread_Deliver) (fx := fx_l14_alive) at_l14_alive (by kernel_rfl) (fun _ _ => trivial) (T := fun _ => T_l14_alive) (fun _ => T_l14_alive_eq) fun O w0 x _ _ => by
    refine ⟨⟨Nat.zero_le _, by show 1 ≤ 1000000; decide⟩, fun q hq => ?_⟩
    have hq : q = g_Deliver [] alivePk := hq
    rw [alive_is] at hq
    subst hq
    exact ⟨fun _ => ⟨by decide, by decide⟩, _, rfl, rfl⟩

theorem runD_shift (t : List Tg) : ∀ (n k : Nat) (s : Sx) (q : List Pk) (s' : Sx) (w : Nat), runD t n s (k + 1) q = some (s', w) → ∃ w', w = w' + 1 ∧ ∀ m, n ≤ m → runD t m s k q = some (s', w')
  | n, k, s, [], s', w, h => by
    have h : some (s, k + 1) = some (s', w) := by cases n <;> exact h
    have h := Option.some.inj h
    injection h with h1 h2
    subst h1; subst h2
    exact ⟨k, rfl, fun m _ => by cases m <;> rfl⟩
  | 0, k, s, p :: q, s', w, h => by cases h
  | n + 1, k, s, p :: q, s', w, h => by
    obtain ⟨w', e, hm⟩ := runD_shift t n (k + 1) _ _ s' w h
    refine ⟨w', e, fun m hnm => ?_⟩
    cases m with
    | zero => omega
    | succ m => exact hm m (by omega)

theorem runD_inv (t : List Tg) : ∀ (n k : Nat) (s : Sx) (q : List Pk) (s' : Sx) (w : Nat), runD t n s k q = some (s', w) → InvS (32 * k) s → InvS (32 * w) s' ∧ w ≤ n + k
  | n, k, s, [], s', w, h, hs => by
    have h : some (s, k) = some (s', w) := by cases n <;> exact h
    have h := Option.some.inj h
    injection h with h1 h2
    subst h1; subst h2
    exact ⟨hs, by omega⟩
  | 0, k, s, p :: q, s', w, h, hs => by cases h
  | n + 1, k, s, p :: q, s', w, h, hs => by
    obtain ⟨h32, hok⟩ := step_ok t p
    obtain ⟨h1, h2⟩ := runD_inv t n (k + 1) _ _ s' w h ((inv_fold hs hok).mono (by omega))
    exact ⟨h1, by omega⟩

theorem deliver_ok {t : List Tg} {p : Pk} (h : (g_Deliver t p).2.1 = (0 : Int)) : g_Right t = true ∧ g_packetRight p = true ∧ ∃ (s : Sx) (w : Nat), runD t 1000 s0 0 [p] = some (s, w) ∧ g_Deliver t p = ((hostsN s.1 16, s.2.1, s.2.2, (w : Int), ()), 0, ()) ∧ InvS (32 * w) s ∧ w ≤ 1000 := by
  by_cases hy : g_Right t = true ∧ g_packetRight p = true
  · have e : g_Deliver t p = finD (runD t 1000 s0 0 [p]) := by unfold g_Deliver; rw [if_pos hy]
    rw [e] at h ⊢
    cases hr : runD t 1000 s0 0 [p] with
    | none =>
      rw [hr] at h
      exact absurd (show (8 : Int) = 0 from h) (by decide)
    | some x =>
      obtain ⟨s, w⟩ := x
      obtain ⟨h1, h2⟩ := runD_inv t 1000 0 s0 [p] s w hr inv_s0
      exact ⟨hy.1, hy.2, s, w, rfl, rfl, h1, by omega⟩
  · have e : g_Deliver t p = (zero tSpread, 1, ()) := by unfold g_Deliver; rw [if_neg hy]
    rw [e] at h
    exact absurd (show (1 : Int) = 0 from h) (by decide)

theorem hosts_le {s : Sx} {w : Nat} (h : InvS (32 * w) s) (hw : w ≤ 1000) : (hostsN s.1 16).length ≤ 1000000 := by
  have := hostsN_len h.2.1 16 (Nat.le_refl _)
  omega

/-- A packet without its first entry, of one hop less. -/
def lessP (p : Pk) : Pk := (List.drop 1 p.1, hopLess p.2.1, p.2.2)

theorem all_drop {l : List Ent} (h : g_all l = true) (n : Nat) : g_all (l.drop n) = true := by
  unfold g_all at h ⊢
  rw [List.all_eq_true] at h ⊢
  exact fun x hx => h x (List.mem_of_mem_drop hx)

theorem pright_is {p : Pk} (h : g_packetRight p = true) : 0 ≤ (p.2.1 : Int) ∧ (p.2.1 : Int) ≤ 64 ∧ ByteArray.size p.2.2.1 ≤ 64 := by
  unfold g_packetRight at h
  simp only [Bool.and_eq_true, decide_eq_true_eq] at h
  exact ⟨h.1.1.2, h.1.2, h.2⟩

theorem hop_is {n : Int} (h0 : 0 ≤ n) (h1 : n ≤ 64) : hopLess n = n - 1 := small_i64 (by omega)
theorem hop_in {n : Int} (h0 : 0 ≤ n) (h1 : n ≤ 64) (hz : ¬ n = 0) : decide ((0 : Int) ≤ hopLess n) = true ∧ decide (hopLess n ≤ (64 : Int)) = true := by
  rw [hop_is h0 h1]
  exact ⟨decide_eq_true (by omega), decide_eq_true (by omega)⟩

theorem less_right {p : Pk} (h : g_packetRight p = true) (hl : 2 ≤ p.1.length) (h0 : ¬ (p.2.1 : Int) = 0) : g_packetRight (lessP p) = true := by
  obtain ⟨_, h4, ha⟩ := right_len h
  obtain ⟨hh0, hh1, hd⟩ := pright_is h
  obtain ⟨e1, e2⟩ := hop_in hh0 hh1 h0
  unfold g_packetRight g_stackRight lessP
  rw [decide_eq_true (show 1 ≤ (List.drop 1 p.1).length by rw [List.length_drop]; omega), decide_eq_true (show (List.drop 1 p.1).length ≤ 4 by rw [List.length_drop]; omega), all_drop ha 1]
  have e3 : decide (ByteArray.size p.2.2.1 ≤ 64) = true := decide_eq_true hd
  show (true && true && true && decide ((0 : Int) ≤ hopLess p.2.1) && decide (hopLess p.2.1 ≤ (64 : Int)) && decide (ByteArray.size p.2.2.1 ≤ 64)) = true
  rw [e1, e2, e3]
  rfl

theorem step_less {t : List Tg} {p : Pk} (ht : g_Right t = true) (hp : g_packetRight p = true) (hl : 2 ≤ p.1.length) (h0 : ¬ (p.2.1 : Int) = 0) (hk : (firstOf p).1 = (1 : Int)) (hm : (g_Match t (firstOf p).2.1).2 = 6) :
    (g_Step t p).1 = [g_on p (zero tTrigger) []] ∧ pushO (g_on p (zero tTrigger) []) = [lessP p] ∧ ∀ s, bump s (g_on p (zero tTrigger) []) = s := by
  obtain ⟨_, h4, ha⟩ := right_len hp
  have e : g_Push (List.drop 1 p.1) [] = (List.drop 1 p.1, 0) := by
    unfold g_Push
    rw [if_pos ⟨all_drop ha 1, rfl⟩, if_pos (by rw [List.length_drop]; show p.1.length - 1 + 0 ≤ 4; omega)]
    rfl
  have hk2 : ¬ (firstOf p).1 = (2 : Int) := by rw [hk]; decide
  have hm0 : ¬ (g_Match t (firstOf p).2.1).2 = 0 := by rw [hm]; decide
  refine ⟨by unfold g_Step; rw [if_pos ⟨hp, ht⟩, if_neg hk2, if_neg h0, if_neg hm0, if_pos (by omega)], ?_, fun s => ?_⟩
  · unfold pushO
    rw [if_neg (by show ¬ (2 : Int) = 1; decide), if_pos (show oKind (g_on p (zero tTrigger) []) = 2 from rfl)]
    show [((g_Push (List.drop 1 p.1) []).1, hopLess p.2.1, p.2.2.1, ())] = [lessP p]
    rw [e]
    rfl
  · unfold bump
    rw [if_neg (by show ¬ (2 : Int) = 1; decide), if_pos (show oKind (g_on p (zero tTrigger) []) = 2 from rfl)]

theorem parts {t : List Tg} {p : Pk} (h : (g_Deliver t p).2.1 = (0 : Int)) (hl : 2 ≤ p.1.length) (h0 : ¬ (p.2.1 : Int) = 0) (hk : (firstOf p).1 = (1 : Int)) (hm : (g_Match t (firstOf p).2.1).2 = 6) :
    ∃ (s : Sx) (w : Nat), g_Deliver t p = ((hostsN s.1 16, s.2.1, s.2.2, ((w + 1 : Nat) : Int), ()), 0, ()) ∧ g_Deliver t (lessP p) = ((hostsN s.1 16, s.2.1, s.2.2, (w : Int), ()), 0, ()) ∧ (hostsN s.1 16).length ≤ 1000000 ∧ w ≤ 1000 := by
  obtain ⟨ht, hp, s, w, hr, e, hI, hw⟩ := deliver_ok h
  obtain ⟨e1, e2, e3⟩ := step_less ht hp hl h0 hk hm
  have hr : runD t 999 ((g_Step t p).1.foldl bump s0) 1 ([] ++ (g_Step t p).1.flatMap pushO) = some (s, w) := hr
  rw [e1, List.foldl_cons, List.foldl_nil, e3, List.flatMap_cons, List.flatMap_nil, e2] at hr
  obtain ⟨w', ew, hm⟩ := runD_shift t 999 0 s0 [lessP p] s w hr
  subst ew
  refine ⟨s, w', e, ?_, hosts_le hI hw, by omega⟩
  unfold g_Deliver
  rw [if_pos ⟨ht, less_right hp hl h0⟩, hm 1000 (by decide)]
  rfl

theorem same_self (a : Sp) : g_SameS a a = true := by
  unfold g_SameS
  rw [decide_eq_true rfl, decide_eq_true rfl, decide_eq_true rfl, decide_eq_true rfl]
  rfl

theorem k_l14_SpreadParts : FnOk prog [] n_l14_SpreadParts (lawS as_l14_SpreadParts) :=
  fnS_T (S := lawS as_l14_SpreadParts) (x_l14_SpreadParts k_l14_few k_l14_cut k_spread_Deliver k_l14_alive k_table_Match k_r14_Same) (fx := fx_l14_SpreadParts) at_l14_SpreadParts (by kernel_rfl) (fun _ _ => trivial) (T := fun x => T_l14_SpreadParts x.1 x.2.1) (fun x => T_l14_SpreadParts_eq x.1 x.2.1) fun O w0 x _ _ => by
    obtain ⟨t0, p0, ⟨⟩⟩ := x
    show TreeGoodS _ _ _ _ _ (T_l14_SpreadParts t0 p0)
    unfold T_l14_SpreadParts
    have ht : (g_few t0).length ≤ 1000000 := by unfold g_few; rw [List.length_take]; omega
    have hp : (g_cut p0).1.length ≤ 1000000 := by show (List.take 6 p0.1).length ≤ _; rw [List.length_take]; omega
    generalize g_few t0 = t at ht
    generalize g_cut p0 = p at hp
    refine ⟨trivial, trivial, all_eq <| all_eq ⟨⟨ht, hp⟩, all_eq ?_⟩⟩
    have hc : ∀ a b c : Bool, (bif bif bif !a then true else b then true else c then true else false) = (!a || b || c) := fun a b c => by cases a <;> cases b <;> cases c <;> rfl
    by_cases hA : (g_Deliver t p).2.1 = (0 : Int) ∧ ¬ (p.2.1 : Int) = 0 ∧ 2 ≤ p.1.length
    · obtain ⟨hA1, hA2, hA3⟩ := hA
      have d1 : decide ((g_Deliver t p).2.1 = (0 : Int)) = true := decide_eq_true hA1
      have d2 : decide ((p.2.1 : Int) = 0) = false := decide_eq_false hA2
      have d3 : decide (lnx tEntry p.1 < (2 : Int)) = false := decide_eq_false (by rw [lnx_is]; omega)
      have hin : inB 0 (lnx tEntry p.1) := ⟨by decide, by rw [lnx_is]; omega⟩
      refine ⟨fun _ => hin, fun _ => ⟨trivial, all_eq ⟨_, rfl, rfl⟩⟩, fun hk => ?_⟩
      have hk : (bif bif bif bif !decide ((g_Deliver t p).2.1 = (0 : Int)) then true else decide ((p.2.1 : Int) = 0) then true else decide (lnx tEntry p.1 < (2 : Int)) then true else !decide ((firstOf p).1 = (1 : Int)) then true else false) = false := by
        revert hk
        cases hb : (bif bif bif !decide ((g_Deliver t p).2.1 = (0 : Int)) then true else decide ((p.2.1 : Int) = 0) then true else decide (lnx tEntry p.1 < (2 : Int)) then true else !decide ((firstOf p).1 = (1 : Int))) <;> intro hk
        · rfl
        · exact absurd (hb.symm.trans hk) (by decide)
      rw [d1, d2, d3] at hk
      have hk1 : (firstOf p).1 = (1 : Int) := by
        by_cases e : (firstOf p).1 = (1 : Int)
        · exact e
        · rw [decide_eq_false e] at hk; cases hk
      refine ⟨hin, ht, all_eq ⟨fun _ => ⟨trivial, all_eq ⟨_, rfl, rfl⟩⟩, fun h6 => ?_⟩⟩
      have h6 : (!decide ((g_Match t (firstOf p).2.1).2 = 6)) = false := h6
      have hm : (g_Match t (firstOf p).2.1).2 = 6 := by
        by_cases e : (g_Match t (firstOf p).2.1).2 = 6
        · exact e
        · rw [decide_eq_false e] at h6; cases h6
      obtain ⟨s, w, e1, e2, hle, hw⟩ := parts hA1 hA3 hA2 hk1 hm
      have eless : ((lCutx tEntry p.1 1 (lnx tEntry p.1), IntKind.wrap IntKind.i64 (p.2.1 - 1), p.2.2) : Pk) = lessP p := by
        rw [drop_one]
        rfl
      refine ⟨⟨by decide, by rw [lnx_is]; omega, Int.le_refl _⟩, ⟨ht, by rw [drop_one, List.length_drop]; omega⟩, ?_⟩
      rw [eless, e2, e1]
      refine all_eq ⟨trivial, all_eq ⟨fun _ => hle, _, rfl, ?_⟩⟩
      have ew : IntKind.wrap .i64 ((w : Int) + 1) = ((w + 1 : Nat) : Int) := wr_idx (m := 100000) (by omega) (by omega)
      show (bif bif true then decide ((0 : Int) = 0) else false then g_SameS (hostsN s.1 16, s.2.1, s.2.2, ((w + 1 : Nat) : Int), ()) (hostsN s.1 16, s.2.1, s.2.2, IntKind.wrap .i64 ((w : Int) + 1), ()) else false, ()) = (true, ())
      rw [ew, same_self]
      rfl
    · have hOr : (bif bif !decide ((g_Deliver t p).2.1 = (0 : Int)) then true else decide ((p.2.1 : Int) = 0) then true else decide (lnx tEntry p.1 < (2 : Int))) = true := by
        by_cases h1 : (g_Deliver t p).2.1 = (0 : Int)
        · by_cases h2 : (p.2.1 : Int) = 0
          · rw [decide_eq_true h1, decide_eq_true h2]; rfl
          · have h3 : lnx tEntry p.1 < (2 : Int) := by
              rw [lnx_is]
              have : ¬ 2 ≤ p.1.length := fun h => hA ⟨h1, h2, h⟩
              omega
            rw [decide_eq_true h3]
            cases (bif !decide ((g_Deliver t p).2.1 = (0 : Int)) then true else decide ((p.2.1 : Int) = 0)) <;> rfl
        · rw [decide_eq_false h1]; rfl
      refine ⟨fun h => absurd (hOr.symm.trans h) (by decide), fun _ => ⟨trivial, all_eq ⟨_, rfl, rfl⟩⟩, fun h => ?_⟩
      exfalso
      have h : (bif bif bif !decide ((g_Deliver t p).2.1 = (0 : Int)) then true else decide ((p.2.1 : Int) = 0) then true else decide (lnx tEntry p.1 < (2 : Int)) then true else !decide ((firstOf p).1 = (1 : Int))) = false := h
      rw [hOr] at h
      cases h

end Go.Proofs.Ytnccacngedeoeaa

/- The trees of functions' bodies, as the evaluator prints them. -/
namespace Go.Proofs.Ytnccacngedeoeaa
open Go Go.RowKit

noncomputable abbrev fx_l14_SpreadAdds : Fx := { fn := f_l14_SpreadAdds, ann := { loops := [(15, { keep := [0, 2, 7, 8, 10, 13, 14, 15, 80, 81, 82] })] }, share := true }
noncomputable abbrev X_l14_SpreadAdds : TabX := { D := { T := tyTab, F := [(n_l14_few, S_l14_few), (n_spread_Deliver, S_spread_Deliver), (n_l14_alive, S_l14_alive), (n_table_Put, S_table_Put), (n_r14_Same, S_r14_Same)], R := [], ovl := [] }, inl := [] }
noncomputable abbrev M_l14_SpreadAdds : RMode := .data rs_l14_SpreadAdds
theorem x_l14_SpreadAdds (h_l14_few : FnOk prog [] n_l14_few S_l14_few) (h_spread_Deliver : FnOk prog [] n_spread_Deliver S_spread_Deliver) (h_l14_alive : FnOk prog [] n_l14_alive S_l14_alive) (h_table_Put : FnOk prog [] n_table_Put S_table_Put) (h_r14_Same : FnOk prog [] n_r14_Same S_r14_Same) : XOk prog X_l14_SpreadAdds := xok (dok_add (dok_add (dok_add (dok_add (dok_add (dok_nil tab_ok mixed_ok) h_r14_Same) h_table_Put) h_l14_alive) h_spread_Deliver) h_l14_few) (by kernel_rfl) rows_nil inl_nil ovl_nil
noncomputable def T_l14_SpreadAdds (t : den (Ty.slc tTrigger)) (id : den tId) (host : den tInt) : TreeS :=
  TreeS.req True
  (TreeS.all (den (Ty.slc tTrigger)) (fun (q3 : den (Ty.slc tTrigger)) ↦ q3 = g_few t)
    fun (q3 : den (Ty.slc tTrigger)) ↦
    TreeS.req (nz 16)
      (TreeS.req (nz 16)
        (TreeS.req
          (List.length q3 ≤ 1000000 ∧
            List.length
                (List.set (List.replicate 1 (zero tEntry)) 0
                  (1, id, Prod.snd (Prod.snd (zero (Ty.pair tInt (Ty.pair tId (Ty.pair tInt Ty.unit))))))) ≤
              1000000)
          (TreeS.all (den (Ty.pair tSpread (Ty.pair tInt Ty.unit)))
            (fun (q4 : den (Ty.pair tSpread (Ty.pair tInt Ty.unit))) ↦
              q4 =
                g_Deliver q3
                  (List.set (List.replicate 1 (zero tEntry)) 0
                      (1, id, Prod.snd (Prod.snd (zero (Ty.pair tInt (Ty.pair tId (Ty.pair tInt Ty.unit)))))),
                    64, Prod.snd (Prod.snd (zero (Ty.pair (Ty.slc tEntry) (Ty.pair tInt (Ty.pair Ty.str Ty.unit)))))))
            fun (q4 : den (Ty.pair tSpread (Ty.pair tInt Ty.unit))) ↦
            TreeS.ite (!decide (Prod.fst (Prod.snd q4) = 0))
              (TreeS.req True
                (TreeS.all (den Ty.bool) (fun (q5 : den Ty.bool) ↦ q5 = true) fun (q5 : den Ty.bool) ↦
                  TreeS.ret
                    (K.val (Ty.pair Ty.bool Ty.unit)
                      (bif q5 then decide (Prod.fst (Prod.snd (Prod.snd (Prod.snd (Prod.fst q4)))) = 0) else false,
                        PUnit.unit))))
              (TreeS.req (List.length q3 ≤ 1000000)
                (TreeS.all (den (Ty.pair (Ty.slc tTrigger) (Ty.pair tInt Ty.unit)))
                  (fun (q5 : den (Ty.pair (Ty.slc tTrigger) (Ty.pair tInt Ty.unit))) ↦
                    q5 =
                      (Prod.fst
                          (g_Put q3
                            (id,
                              (2, Prod.fst (Prod.snd (zero (Ty.pair tInt (Ty.pair tId (Ty.pair tInt Ty.unit))))),
                                Int.tmod (IntKind.wrap IntKind.i64 (Int.tmod host 16 + 16)) 16,
                                Prod.snd
                                  (Prod.snd (Prod.snd (zero (Ty.pair tInt (Ty.pair tId (Ty.pair tInt Ty.unit))))))),
                              5,
                              Prod.snd
                                (Prod.snd (Prod.snd (zero (Ty.pair tId (Ty.pair tEntry (Ty.pair tInt Ty.unit)))))))),
                        Prod.snd
                          (g_Put q3
                            (id,
                              (2, Prod.fst (Prod.snd (zero (Ty.pair tInt (Ty.pair tId (Ty.pair tInt Ty.unit))))),
                                Int.tmod (IntKind.wrap IntKind.i64 (Int.tmod host 16 + 16)) 16,
                                Prod.snd
                                  (Prod.snd (Prod.snd (zero (Ty.pair tInt (Ty.pair tId (Ty.pair tInt Ty.unit))))))),
                              5,
                              Prod.snd
                                (Prod.snd (Prod.snd (zero (Ty.pair tId (Ty.pair tEntry (Ty.pair tInt Ty.unit)))))))),
                        PUnit.unit))
                  fun (q5 : den (Ty.pair (Ty.slc tTrigger) (Ty.pair tInt Ty.unit))) ↦
                  TreeS.ite
                    (bif !decide (Prod.fst (Prod.snd q5) = 0) then true
                    else decide (lnx tTrigger (Prod.fst q5) = lnx tTrigger q3))
                    (TreeS.req True
                      (TreeS.all (den Ty.bool) (fun (q6 : den Ty.bool) ↦ q6 = true) fun (q6 : den Ty.bool) ↦
                        TreeS.ret (K.val (Ty.pair Ty.bool Ty.unit) (q6, PUnit.unit))))
                    (TreeS.req
                      (List.length
                            (List.set (List.replicate 1 (zero tTrigger)) 0
                              (id,
                                (2, Prod.fst (Prod.snd (zero (Ty.pair tInt (Ty.pair tId (Ty.pair tInt Ty.unit))))),
                                  Int.tmod (IntKind.wrap IntKind.i64 (Int.tmod host 16 + 16)) 16,
                                  Prod.snd
                                    (Prod.snd (Prod.snd (zero (Ty.pair tInt (Ty.pair tId (Ty.pair tInt Ty.unit))))))),
                                5,
                                Prod.snd
                                  (Prod.snd (Prod.snd (zero (Ty.pair tId (Ty.pair tEntry (Ty.pair tInt Ty.unit)))))))) ≤
                          1000000 ∧
                        List.length
                            (List.set (List.replicate 1 (zero tEntry)) 0
                              (1, id, Prod.snd (Prod.snd (zero (Ty.pair tInt (Ty.pair tId (Ty.pair tInt Ty.unit))))))) ≤
                          1000000)
                      (TreeS.all (den (Ty.pair tSpread (Ty.pair tInt Ty.unit)))
                        (fun (q6 : den (Ty.pair tSpread (Ty.pair tInt Ty.unit))) ↦
                          q6 =
                            g_Deliver
                              (List.set (List.replicate 1 (zero tTrigger)) 0
                                (id,
                                  (2, Prod.fst (Prod.snd (zero (Ty.pair tInt (Ty.pair tId (Ty.pair tInt Ty.unit))))),
                                    Int.tmod (IntKind.wrap IntKind.i64 (Int.tmod host 16 + 16)) 16,
                                    Prod.snd
                                      (Prod.snd (Prod.snd (zero (Ty.pair tInt (Ty.pair tId (Ty.pair tInt Ty.unit))))))),
                                  5,
                                  Prod.snd
                                    (Prod.snd (Prod.snd (zero (Ty.pair tId (Ty.pair tEntry (Ty.pair tInt Ty.unit))))))))
                              (List.set (List.replicate 1 (zero tEntry)) 0
                                  (1, id,
                                    Prod.snd (Prod.snd (zero (Ty.pair tInt (Ty.pair tId (Ty.pair tInt Ty.unit)))))),
                                64,
                                Prod.snd
                                  (Prod.snd (zero (Ty.pair (Ty.slc tEntry) (Ty.pair tInt (Ty.pair Ty.str Ty.unit)))))))
                        fun (q6 : den (Ty.pair tSpread (Ty.pair tInt Ty.unit))) ↦
                        TreeS.req (inB 0 (↑32 : Int))
                          (TreeS.req (inB 0 (↑32 : Int))
                            (TreeS.loop [] fx_l14_SpreadAdds (lp f_l14_SpreadAdds 15)
                              [(0, K.val (Ty.slc tTrigger) q3),
                                (2, K.val tInt (Int.tmod (IntKind.wrap IntKind.i64 (Int.tmod host 16 + 16)) 16)),
                                (7, K.ptr 0 tPacket []), (8, K.ptr (0 + 1) tSpread []),
                                (10, K.ptr (0 + 1 + 1) tEntry []), (13, K.ptr (0 + 1 + 1 + 1) tSpread []),
                                (14, K.val tInt (Prod.fst (Prod.snd q6))), (15, K.ptr (0 + 1 + 1 + 1 + 1) tId []),
                                (80, K.val (Ty.slc tTrigger) q3), (81, K.val tInt (lnx tTrigger q3)),
                                (82, K.val tInt 0)]
                              [(0,
                                  Bx.cell tPacket
                                    (List.set (List.replicate 1 (zero tEntry)) 0
                                        (1, id,
                                          Prod.snd
                                            (Prod.snd (zero (Ty.pair tInt (Ty.pair tId (Ty.pair tInt Ty.unit)))))),
                                      64,
                                      Prod.snd
                                        (Prod.snd
                                          (zero (Ty.pair (Ty.slc tEntry) (Ty.pair tInt (Ty.pair Ty.str Ty.unit))))))),
                                (0 + 1, Bx.cell tSpread (Prod.fst q4)),
                                (0 + 1 + 1,
                                  Bx.cell tEntry
                                    (2, Prod.fst (Prod.snd (zero (Ty.pair tInt (Ty.pair tId (Ty.pair tInt Ty.unit))))),
                                      Int.tmod (IntKind.wrap IntKind.i64 (Int.tmod host 16 + 16)) 16,
                                      Prod.snd
                                        (Prod.snd
                                          (Prod.snd (zero (Ty.pair tInt (Ty.pair tId (Ty.pair tInt Ty.unit)))))))),
                                (0 + 1 + 1 + 1, Bx.cell tSpread (Prod.fst q6)),
                                (0 + 1 + 1 + 1 + 1,
                                  Bx.cell tId
                                    (setAtx (Ty.int IntKind.u8) id 0
                                      (IntKind.wrap IntKind.u8
                                        (↑(BitVec.toNat
                                              (BitVec.ofInt (IntKind.bits IntKind.u8) (el (Ty.int IntKind.u8) id 0) ^^^
                                                BitVec.ofInt (IntKind.bits IntKind.u8) 255)) :
                                          Int))))]))))))))))
theorem T_l14_SpreadAdds_eq (t : den (Ty.slc tTrigger)) (id : den tId) (host : den tInt) : treeS X_l14_SpreadAdds M_l14_SpreadAdds 5000 [] fx_l14_SpreadAdds (bodyOf f_l14_SpreadAdds) (Env.of
  (argEnv as_l14_SpreadAdds (t, id, host, ()) 0) []) = T_l14_SpreadAdds t id host := by kernel_rfl

noncomputable def E_l14_SpreadAdds_15 (v0 : den (Ty.slc tTrigger)) (v2 : den tInt) (v14 : den tInt) (v80 : den (Ty.slc tTrigger)) (v81 : den tInt) (v82 : den tInt) (b0 : den tPacket) (b1 : den tSpread) (b2 : den tEntry) (b3 : den tSpread) (b4 : den tId) : Env := Env.of
  [(0, K.val (Ty.slc tTrigger) v0), (2, K.val tInt v2), (7, K.ptr 0 tPacket []), (8, K.ptr (0 + 1) tSpread []),
    (10, K.ptr (0 + 1 + 1) tEntry []), (13, K.ptr (0 + 1 + 1 + 1) tSpread []), (14, K.val tInt v14),
    (15, K.ptr (0 + 1 + 1 + 1 + 1) tId []), (80, K.val (Ty.slc tTrigger) v80), (81, K.val tInt v81),
    (82, K.val tInt v82)]
  [(0, Bx.cell tPacket b0), (1, Bx.cell tSpread b1), (2, Bx.cell tEntry b2), (3, Bx.cell tSpread b3),
    (4, Bx.cell tId b4)]
noncomputable def TL_l14_SpreadAdds_15 (v0 : den (Ty.slc tTrigger)) (v2 : den tInt) (v14 : den tInt) (v80 : den (Ty.slc tTrigger)) (v81 : den tInt) (v82 : den tInt) (b0 : den tPacket) (b1 : den tSpread) (b2 : den tEntry) (b3 : den tSpread) (b4 : den tId) : TreeS :=
  TreeS.ite (decide (v82 < v81))
  (TreeS.req (inB v82 (lnx tTrigger v80))
    (TreeS.req (inB 0 (↑32 : Int))
      (TreeS.req (inB 0 (↑32 : Int))
        (TreeS.req
          (impl
            [(decide (el (Ty.int IntKind.u8) (Prod.fst (el tTrigger v80 v82)) 0 = el (Ty.int IntKind.u8) b4 0), false),
              (decide (Prod.fst (Prod.fst (Prod.snd (el tTrigger v80 v82))) = 1), true)]
            (inB 0 (↑32 : Int)))
          (TreeS.req
            (impl
              [(decide (el (Ty.int IntKind.u8) (Prod.fst (el tTrigger v80 v82)) 0 = el (Ty.int IntKind.u8) b4 0),
                  false),
                (decide (Prod.fst (Prod.fst (Prod.snd (el tTrigger v80 v82))) = 1), true)]
              (inB 0 (↑32 : Int)))
            (TreeS.ite
              (bif decide (el (Ty.int IntKind.u8) (Prod.fst (el tTrigger v80 v82)) 0 = el (Ty.int IntKind.u8) b4 0) then
                true
              else
                bif decide (Prod.fst (Prod.fst (Prod.snd (el tTrigger v80 v82))) = 1) then
                  decide
                    (el (Ty.int IntKind.u8) (Prod.fst (Prod.snd (Prod.fst (Prod.snd (el tTrigger v80 v82))))) 0 =
                      el (Ty.int IntKind.u8) b4 0)
                else false)
              (TreeS.req True
                (TreeS.all (den Ty.bool) (fun (q11 : den Ty.bool) ↦ q11 = true) fun (q11 : den Ty.bool) ↦
                  TreeS.ret (K.val (Ty.pair Ty.bool Ty.unit) (q11, PUnit.unit))))
              (TreeS.loop [] fx_l14_SpreadAdds (lp f_l14_SpreadAdds 15)
                [(0, K.val (Ty.slc tTrigger) v0), (2, K.val tInt v2), (7, K.ptr 0 tPacket []),
                  (8, K.ptr (0 + 1) tSpread []), (10, K.ptr (0 + 1 + 1) tEntry []),
                  (13, K.ptr (0 + 1 + 1 + 1) tSpread []), (14, K.val tInt v14), (15, K.ptr (0 + 1 + 1 + 1 + 1) tId []),
                  (80, K.val (Ty.slc tTrigger) v80), (81, K.val tInt v81),
                  (82, K.val tInt (IntKind.wrap IntKind.i64 (v82 + 1)))]
                [(0, Bx.cell tPacket b0), (0 + 1, Bx.cell tSpread b1), (0 + 1 + 1, Bx.cell tEntry b2),
                  (0 + 1 + 1 + 1, Bx.cell tSpread b3), (0 + 1 + 1 + 1 + 1, Bx.cell tId b4)])))))))
  (TreeS.req (List.length v0 ≤ 1000000)
    (TreeS.all (den (Ty.pair (Ty.slc tTrigger) (Ty.pair tInt Ty.unit)))
      (fun (q11 : den (Ty.pair (Ty.slc tTrigger) (Ty.pair tInt Ty.unit))) ↦
        q11 =
          (Prod.fst
              (g_Put v0
                (b4, b2, 5,
                  Prod.snd (Prod.snd (Prod.snd (zero (Ty.pair tId (Ty.pair tEntry (Ty.pair tInt Ty.unit)))))))),
            Prod.snd
              (g_Put v0
                (b4, b2, 5,
                  Prod.snd (Prod.snd (Prod.snd (zero (Ty.pair tId (Ty.pair tEntry (Ty.pair tInt Ty.unit)))))))),
            PUnit.unit))
      fun (q11 : den (Ty.pair (Ty.slc tTrigger) (Ty.pair tInt Ty.unit))) ↦
      TreeS.req (List.length (Prod.fst q11) ≤ 1000000 ∧ List.length (Prod.fst b0) ≤ 1000000)
        (TreeS.all (den (Ty.pair tSpread (Ty.pair tInt Ty.unit)))
          (fun (q12 : den (Ty.pair tSpread (Ty.pair tInt Ty.unit))) ↦ q12 = g_Deliver (Prod.fst q11) b0)
          fun (q12 : den (Ty.pair tSpread (Ty.pair tInt Ty.unit))) ↦
          TreeS.req True
            (TreeS.all (den Ty.bool) (fun (q13 : den Ty.bool) ↦ q13 = true) fun (q13 : den Ty.bool) ↦
              TreeS.req
                (impl
                  [(bif bif q13 then decide (v14 = 0) else false then decide (lnx tInt (Prod.fst b3) = 1) else false,
                      true)]
                  (inB 0 (lnx tInt (Prod.fst b3))))
                (TreeS.req
                  (impl
                    [(bif
                            bif
                                bif bif q13 then decide (v14 = 0) else false then decide (lnx tInt (Prod.fst b3) = 1)
                                else false then
                              decide (el tInt (Prod.fst b3) 0 = v2)
                            else false then
                          decide (Prod.fst (Prod.snd (Prod.snd (Prod.snd b3))) = 2)
                        else false,
                        true),
                      (!decide (Prod.fst (Prod.snd q11) = 0), false), (decide (Prod.fst (Prod.snd q12) = 0), true)]
                    (List.length (Prod.fst (Prod.fst q12)) ≤ 1000000))
                  (TreeS.ret
                    (K.val (Ty.pair Ty.bool Ty.unit)
                      (bif
                            bif
                                bif
                                    bif bif q13 then decide (v14 = 0) else false then
                                      decide (lnx tInt (Prod.fst b3) = 1)
                                    else false then
                                  decide (el tInt (Prod.fst b3) 0 = v2)
                                else false then
                              decide (Prod.fst (Prod.snd (Prod.snd (Prod.snd b3))) = 2)
                            else false then
                          bif !decide (Prod.fst (Prod.snd q11) = 0) then true
                          else bif decide (Prod.fst (Prod.snd q12) = 0) then g_SameS (Prod.fst q12) b1 else false
                        else false,
                        PUnit.unit))))))))
theorem TL_l14_SpreadAdds_15_eq (v0 : den (Ty.slc tTrigger)) (v2 : den tInt) (v14 : den tInt) (v80 : den (Ty.slc tTrigger)) (v81 : den tInt) (v82 : den tInt) (b0 : den tPacket) (b1 : den tSpread) (b2 : den tEntry) (b3 : den tSpread) (b4 : den tId) : treeS X_l14_SpreadAdds M_l14_SpreadAdds 5000 [] fx_l14_SpreadAdds (lp f_l14_SpreadAdds 15) (E_l14_SpreadAdds_15 v0 v2 v14 v80 v81 v82 b0 b1 b2 b3 b4) = TL_l14_SpreadAdds_15 v0 v2 v14 v80 v81 v82 b0 b1 b2 b3 b4 := by kernel_rfl

end Go.Proofs.Ytnccacngedeoeaa

/- Which triggers match: by the likest, and by definition. No program here. -/
namespace Go.Proofs.Ytnccacngedeoeaa
open Go Go.RowKit

theorem cmn_le (a b : List Int) : ∀ (k i : Nat), cmn a b k i ≤ i + k
  | 0, i => Nat.le_refl _
  | k + 1, i => by
    rw [cmn]; split
    · have := cmn_le a b k (i + 1); omega
    · omega

def bitsC (id : den tId) (x : den tTrigger) : Int := g_Common x.1 id
theorem bitsC_range (id : den tId) (x : den tTrigger) : 0 ≤ bitsC id x ∧ bitsC id x ≤ 256 := by
  have := cmn_le x.1 id 256 0
  show (0 : Int) ≤ ((cmn x.1 id 256 0 : Nat) : Int) ∧ ((cmn x.1 id 256 0 : Nat) : Int) ≤ 256
  omega

theorem likest_spec (id : den tId) : ∀ (t : List (den tTrigger)) (m : Int) (l : den tId), (likest id t m l = (m, l) ∧ ∀ x ∈ t, bitsC id x ≤ m) ∨
    ∃ h, t.find? (fun x => decide (bitsC id x = (likest id t m l).1)) = some h ∧ (likest id t m l).2 = h.1 ∧ m < (likest id t m l).1 ∧ ∀ x ∈ t, bitsC id x ≤ (likest id t m l).1
  | [], m, l => .inl ⟨rfl, fun _ h => by cases h⟩
  | x :: t, m, l => by
    by_cases hx : m < bitsC id x
    · have e : likest id (x :: t) m l = likest id t (bitsC id x) x.1 := by rw [likest]; exact if_pos hx
      rw [e]
      rcases likest_spec id t (bitsC id x) x.1 with ⟨h1, h2⟩ | ⟨h, h1, h2, h3, h4⟩
      · right
        rw [h1]
        refine ⟨x, by rw [List.find?_cons_of_pos (by simp)], rfl, hx, fun y hy => ?_⟩
        rcases List.mem_cons.1 hy with rfl | hy
        · exact Int.le_refl _
        · exact h2 y hy
      · right
        refine ⟨h, ?_, h2, by omega, fun y hy => ?_⟩
        · rw [List.find?_cons_of_neg (by simp; omega)]; exact h1
        · rcases List.mem_cons.1 hy with rfl | hy
          · omega
          · exact h4 y hy
    · have e : likest id (x :: t) m l = likest id t m l := by rw [likest]; exact if_neg hx
      rw [e]
      rcases likest_spec id t m l with ⟨h1, h2⟩ | ⟨h, h1, h2, h3, h4⟩
      · left
        refine ⟨h1, fun y hy => ?_⟩
        rcases List.mem_cons.1 hy with rfl | hy
        · omega
        · exact h2 y hy
      · right
        refine ⟨h, ?_, h2, h3, fun y hy => ?_⟩
        · rw [List.find?_cons_of_neg (by simp; omega)]; exact h1
        · rcases List.mem_cons.1 hy with rfl | hy
          · omega
          · exact h4 y hy

theorem matchN_some (id : den tId) (n : Int) (h : den tTrigger) (hh : bitsC id h = n) : ∀ (t b : List (den tTrigger)), matchN id n t (h :: b) = h :: b ++ t.filter (fun x => decide (x.1 = h.1))
  | [], b => by simp [matchN]
  | x :: t, b => by
    have hp : pickN id n (h :: b) x = decide (x.1 = h.1) := by
      have e1 : el tTrigger (h :: b) 0 = h := rfl
      rw [pickN, e1]
      by_cases e : x.1 = h.1
      · have : g_Common x.1 id = n := by rw [e]; exact hh
        rw [decide_eq_true this, e]; simp
      · have e' : ¬ h.1 = x.1 := fun h => e h.symm
        simp [e, e']
    rw [matchN, hp, List.filter_cons]
    split
    · rw [List.cons_append, matchN_some id n h hh t (b ++ [x])]; simp
    · exact matchN_some id n h hh t b

theorem matchN_none (id : den tId) (n : Int) : ∀ t : List (den tTrigger), matchN id n t [] = match t.find? (fun x => decide (bitsC id x = n)) with | none => [] | some h => t.filter (fun x => decide (x.1 = h.1))
  | [] => rfl
  | x :: t => by
    have hp : pickN id n [] x = decide (bitsC id x = n) := by
      rw [pickN]; simp only [List.length_nil, decide_true, Bool.true_or, Bool.and_true]; rfl
    rw [matchN, hp]
    by_cases hx : bitsC id x = n
    · rw [if_pos (by simp [hx]), List.find?_cons_of_pos (by simp [hx])]
      show matchN id n t [x] = (x :: t).filter (fun y => decide (y.1 = x.1))
      rw [matchN_some id n x hx t [], List.filter_cons, if_pos (by simp)]
      rfl
    · rw [if_neg (by simp [hx]), List.find?_cons_of_neg (by simp [hx]), matchN_none id n t]
      cases hf : t.find? (fun x => decide (bitsC id x = n)) with
      | none => rfl
      | some h =>
        have hh : bitsC id h = n := by simpa using List.find?_some hf
        show t.filter (fun y => decide (y.1 = h.1)) = (x :: t).filter (fun y => decide (y.1 = h.1))
        rw [List.filter_cons, if_neg]
        intro e
        have e : x.1 = h.1 := by simpa using e
        exact hx (by rw [← hh]; unfold bitsC; rw [e])

theorem matchD_none (t : List (den tTrigger)) (id : den tId) : ∀ k : Nat, (∀ x ∈ t, bitsC id x ≤ 127) → matchD t id k = []
  | 0, _ => rfl
  | k + 1, h => by
    have : matchN id (127 + (k + 1 : Nat)) t [] = [] := by
      rw [matchN_none, List.find?_eq_none.2 (fun x hx => by have := h x hx; simp; omega)]
    rw [matchD, this, if_neg (by simp)]
    exact matchD_none t id k h

theorem matchD_some (t : List (den tTrigger)) (id : den tId) (M : Int) (h : den tTrigger) (h0 : 127 < M) (h1 : ∀ x ∈ t, bitsC id x ≤ M) (h2 : t.find? (fun x => decide (bitsC id x = M)) = some h) :
    ∀ k : Nat, M ≤ 127 + (k : Nat) → matchD t id k = t.filter (fun x => decide (x.1 = h.1))
  | 0, hk => by omega
  | k + 1, hk => by
    by_cases e : M = 127 + ((k + 1 : Nat) : Int)
    · have hn : matchN id (127 + (k + 1 : Nat)) t [] = t.filter (fun x => decide (x.1 = h.1)) := by
        rw [matchN_none, ← e, h2]
      have hm : h ∈ t.filter (fun x => decide (x.1 = h.1)) := List.mem_filter.2 ⟨List.mem_of_find?_eq_some h2, by simp⟩
      rw [matchD, hn, if_pos (List.length_pos_of_mem hm)]
    · have : matchN id (127 + (k + 1 : Nat)) t [] = [] := by
        rw [matchN_none, List.find?_eq_none.2 (fun x hx => by have := h1 x hx; simp; omega)]
      rw [matchD, this, if_neg (by simp)]
      exact matchD_some t id M h h0 h1 h2 k (by omega)

/-- What matches a table that may be is what the document says. -/
theorem match_law (t : List (den tTrigger)) (id : den tId) (hr : g_Right t = true) : (matchD t id 129 = [] ∧ g_Match t id = ([], 6)) ∨ (matchD t id 129 ≠ [] ∧ g_Match t id = (matchD t id 129, 0)) := by
  unfold g_Match
  rw [if_pos hr]
  rcases likest_spec id t 127 (zero tId) with ⟨h1, h2⟩ | ⟨h, h1, h2, h3, h4⟩
  · left
    rw [h1]
    exact ⟨matchD_none t id 129 h2, if_pos (by decide)⟩
  · right
    have hm : h ∈ t.filter (fun x => decide (x.1 = h.1)) := List.mem_filter.2 ⟨List.mem_of_find?_eq_some h1, by simp⟩
    have hh : bitsC id h = (likest id t 127 (zero tId)).1 := by simpa using List.find?_some h1
    have hb := bitsC_range id h
    have e := matchD_some t id _ h h3 h4 h1 129 (by rw [← hh]; omega)
    refine ⟨fun h0 => ?_, ?_⟩
    · rw [e] at h0
      rw [h0] at hm
      cases hm
    · rw [if_neg (by omega), e, h2]

theorem on_true (t : List (den tTrigger)) (a b : den tId) : g_On t a b true = t.filter fun x => g_In x.1 a b := by
  unfold g_On
  congr 1
  funext x
  cases g_In x.1 a b <;> rfl
theorem on_false (t : List (den tTrigger)) (a b : den tId) : g_On t a b false = t.filter fun x => !g_In x.1 a b := by
  unfold g_On
  congr 1
  funext x
  cases g_In x.1 a b <;> rfl

end Go.Proofs.Ytnccacngedeoeaa

/- Tables in order: where a trigger stands, what putting and dropping make. No program here. -/
namespace Go.Proofs.Ytnccacngedeoeaa
open Go Go.RowKit

/-! ### The order -/

def lexI (a b c d a' b' c' d' : Int) : Prop := a < a' ∨ (a = a' ∧ (b < b' ∨ (b = b' ∧ (c < c' ∨ (c = c' ∧ d < d')))))
def eqI4 (a b c d a' b' c' d' : Int) : Prop := a = a' ∧ b = b' ∧ c = c' ∧ d = d'
def lexLt (a b : den tTrigger) : Prop := lexI (vB a.1) a.2.1.1 (vB a.2.1.2.1) a.2.1.2.2.1 (vB b.1) b.2.1.1 (vB b.2.1.2.1) b.2.1.2.2.1
def lexEq (a b : den tTrigger) : Prop := eqI4 (vB a.1) a.2.1.1 (vB a.2.1.2.1) a.2.1.2.2.1 (vB b.1) b.2.1.1 (vB b.2.1.2.1) b.2.1.2.2.1

theorem cmpI_cases (x y : Int) : (x < y ∧ cmpI x y = -1) ∨ (x = y ∧ cmpI x y = 0) ∨ (y < x ∧ cmpI x y = 1) := by
  unfold cmpI
  rcases Int.lt_trichotomy x y with h | h | h
  · left; exact ⟨h, if_pos h⟩
  · right; left; exact ⟨h, by rw [if_neg (by omega), if_neg (by omega)]⟩
  · right; right; exact ⟨h, by rw [if_neg (by omega), if_pos h]⟩

theorem orC_lt {x y z : Int} : orC (cmpI x y) z < 0 ↔ x < y ∨ (x = y ∧ z < 0) := by
  unfold orC
  rcases cmpI_cases x y with ⟨h, e⟩ | ⟨h, e⟩ | ⟨h, e⟩ <;> rw [e]
  · rw [if_neg (by decide)]; omega
  · rw [if_pos rfl]; omega
  · rw [if_neg (by decide)]; omega
theorem orC_zero {x y z : Int} : orC (cmpI x y) z = 0 ↔ x = y ∧ z = 0 := by
  unfold orC
  rcases cmpI_cases x y with ⟨h, e⟩ | ⟨h, e⟩ | ⟨h, e⟩ <;> rw [e]
  · rw [if_neg (by decide)]; omega
  · rw [if_pos rfl]; omega
  · rw [if_neg (by decide)]; omega

theorem cmpT_lt {a b : den tTrigger} : g_cmpT a b < 0 ↔ lexLt a b := by
  unfold g_cmpT lexLt lexI g_Cmp
  rw [orC_lt, orC_lt, orC_lt, cmpI_lt]
theorem cmpT_zero {a b : den tTrigger} : g_cmpT a b = 0 ↔ lexEq a b := by
  unfold g_cmpT lexEq eqI4 g_Cmp
  rw [orC_zero, orC_zero, orC_zero, cmpI_zero]

section
variable {a b c d a' b' c' d' a'' b'' c'' d'' : Int}
theorem lexI_trans (h : lexI a b c d a' b' c' d') (k : lexI a' b' c' d' a'' b'' c'' d'') : lexI a b c d a'' b'' c'' d'' := by unfold lexI at *; omega
theorem lexI_irrefl (h : lexI a b c d a b c d) : False := by unfold lexI at h; omega
theorem lexI_tri (a b c d a' b' c' d' : Int) : lexI a b c d a' b' c' d' ∨ eqI4 a b c d a' b' c' d' ∨ lexI a' b' c' d' a b c d := by unfold lexI eqI4; omega
theorem lexI_eq (h : eqI4 a b c d a' b' c' d') : (lexI a b c d a'' b'' c'' d'' ↔ lexI a' b' c' d' a'' b'' c'' d'') ∧ (lexI a'' b'' c'' d'' a b c d ↔ lexI a'' b'' c'' d'' a' b' c' d') := by
  obtain ⟨rfl, rfl, rfl, rfl⟩ := h; exact ⟨Iff.rfl, Iff.rfl⟩
end
theorem lex_trans {a b c : den tTrigger} (h : lexLt a b) (k : lexLt b c) : lexLt a c := lexI_trans h k
theorem lex_irrefl {a : den tTrigger} (h : lexLt a a) : False := lexI_irrefl h
theorem lex_tri (a b : den tTrigger) : lexLt a b ∨ lexEq a b ∨ lexLt b a := lexI_tri _ _ _ _ _ _ _ _
theorem lex_eq_lt {a b c : den tTrigger} (h : lexEq a b) : lexLt a c ↔ lexLt b c := (lexI_eq h).1
theorem lex_lt_eq {a b c : den tTrigger} (h : lexEq a b) : lexLt c a ↔ lexLt c b := (lexI_eq h).2
theorem lex_not_eq {a b : den tTrigger} (h : lexLt a b) : ¬ lexEq a b := fun e => lex_irrefl ((lex_eq_lt e).1 h)

/-! ### Tables that may be -/

structure Tab (t : List (den tTrigger)) : Prop where
  may : ∀ x ∈ t, g_may x = true
  rise : ∀ (i j : Nat) (hj : j < t.length) (hij : i < j), lexLt (t[i]'(by omega)) t[j]
  len : t.length ≤ 32

theorem tab_of_right {t : List (den tTrigger)} (h : g_Right t = true) : Tab t := by
  unfold g_Right okFrom at h
  rw [Bool.and_eq_true, decide_eq_true_eq, List.all_eq_true] at h
  obtain ⟨h1, h2⟩ := h
  have ok : ∀ i (hi : i < t.length), okAt t i = true := fun i hi => h1 i (by rw [List.mem_range'_1]; omega)
  have step : ∀ i (hi : i + 1 < t.length), lexLt (t[i]'(by omega)) t[i + 1] := fun i hi => by
    have := ok (i + 1) hi
    unfold okAt at this
    rw [Bool.and_eq_true] at this
    have h3 := this.2
    rw [show decide (i + 1 = 0) = false by simp, Bool.false_or, show (((i + 1 : Nat) : Int) - 1) = ((i : Nat) : Int) by omega, el_at hi, el_at (show i < t.length by omega)] at h3
    exact cmpT_lt.1 (of_decide_eq_true h3)
  refine ⟨fun x hx => ?_, fun i j hj hij => ?_, h2⟩
  · obtain ⟨i, hi, rfl⟩ := List.getElem_of_mem hx
    have := ok i hi
    unfold okAt at this
    rw [Bool.and_eq_true, el_at hi] at this
    exact this.1
  · obtain ⟨k, rfl⟩ : ∃ k, j = i + 1 + k := ⟨j - (i + 1), by omega⟩
    have key : ∀ (k : Nat) (hj : i + 1 + k < t.length), lexLt (t[i]'(by omega)) t[i + 1 + k] := by
      intro k
      induction k with
      | zero => exact fun hj => step i hj
      | succ k ih => exact fun hj => lex_trans (ih (by omega)) (step (i + 1 + k) hj)
    exact key k hj

theorem halve_spec (c : Nat → Int) (n p : Nat) (h1 : ∀ i, i < p → i < n → c i < 0) (h2 : ∀ i, p ≤ i → i < n → ¬ c i < 0) : ∀ (k i j : Nat), i ≤ p → p ≤ j → j ≤ n → j - i ≤ k → halve c k i j = p
  | 0, i, j, hi, hj, hn, hk => by unfold halve; omega
  | k + 1, i, j, hi, hj, hn, hk => by
    unfold halve
    split
    · rename_i hlt
      split
      · rename_i hc
        have : (i + j) / 2 < p := by
          rcases Nat.lt_or_ge ((i + j) / 2) p with h | h
          · exact h
          · exact absurd hc (h2 _ h (by omega))
        exact halve_spec c n p h1 h2 k _ j (by omega) hj hn (by omega)
      · rename_i hc
        have : p ≤ (i + j) / 2 := by
          rcases Nat.lt_or_ge ((i + j) / 2) p with h | h
          · exact absurd (h1 _ h (by omega)) hc
          · exact h
        exact halve_spec c n p h1 h2 k i _ hi this (by omega) (by omega)
    · omega

theorem place {t : List (den tTrigger)} (ht : Tab t) (x : den tTrigger) : ∃ p, p ≤ t.length ∧ (∀ i (hi : i < t.length), i < p → lexLt t[i] x) ∧ (∀ i (hi : i < t.length), p ≤ i → ¬ lexLt t[i] x) := by
  have : ∀ n, n ≤ t.length → ∃ p, p ≤ n ∧ (∀ i (hi : i < t.length), i < p → lexLt t[i] x) ∧ (∀ i (hi : i < t.length), i < n → p ≤ i → ¬ lexLt t[i] x) := by
    intro n
    induction n with
    | zero => exact fun _ => ⟨0, Nat.le_refl _, fun i _ h => by omega, fun i _ h => by omega⟩
    | succ n ih =>
      intro hn
      obtain ⟨p, h1, h2, h3⟩ := ih (by omega)
      by_cases hp : p = n
      · subst hp
        by_cases hx : lexLt (t[p]'(by omega)) x
        · refine ⟨p + 1, Nat.le_refl _, fun i hi h => ?_, fun i hi h h' => by omega⟩
          rcases Nat.lt_or_ge i p with h4 | h4
          · exact h2 i hi h4
          · have : i = p := by omega
            subst this; exact hx
        · refine ⟨p, by omega, h2, fun i hi h h' => ?_⟩
          have : i = p := by omega
          subst this; exact hx
      · refine ⟨p, by omega, h2, fun i hi h h' hlt => ?_⟩
        have hpl : p < t.length := by omega
        rcases Nat.lt_or_ge p i with h4 | h4
        · exact h3 p hpl (by omega) (Nat.le_refl _) (lex_trans (ht.rise p i hi h4) hlt)
        · have : i = p := by omega
          subst this
          exact h3 i hi (by omega) (Nat.le_refl _) hlt
  obtain ⟨p, h1, h2, h3⟩ := this t.length (Nat.le_refl _)
  exact ⟨p, h1, h2, fun i hi h => h3 i hi hi h⟩

theorem at_spec {t : List (den tTrigger)} (ht : Tab t) (x : den tTrigger) : (∀ i (hi : i < t.length), i < atB t x → lexLt t[i] x) ∧ (∀ i (hi : i < t.length), atB t x ≤ i → ¬ lexLt t[i] x) := by
  obtain ⟨p, h1, h2, h3⟩ := place ht x
  have : atB t x = p := halve_spec _ t.length p (fun i hi hn => by rw [el_at hn]; exact cmpT_lt.2 (h2 i hn hi)) (fun i hi hn hc => by
    rw [el_at hn] at hc
    exact h3 i hn hi (cmpT_lt.1 hc)) t.length 0 t.length (Nat.zero_le _) h1 (Nat.le_refl _) (Nat.le_refl _)
  rw [this]
  exact ⟨fun i hi h => h2 i hi h, fun i hi h => h3 i hi h⟩

theorem there_true {t : List (den tTrigger)} {x : den tTrigger} (h : thereB t x = true) : ∃ hp : atB t x < t.length, lexEq t[atB t x] x := by
  have hp := thereB_lt h
  unfold thereB isB at h
  rw [Bool.and_eq_true] at h
  refine ⟨hp, ?_⟩
  have h2 := of_decide_eq_true h.2
  have h2 : g_cmpT (el tTrigger t ((atB t x : Nat) : Int)) x = 0 := h2
  rw [el_at hp] at h2
  exact cmpT_zero.1 h2

theorem there_false {t : List (den tTrigger)} (ht : Tab t) {x : den tTrigger} (h : thereB t x = false) : ∀ y ∈ t, ¬ lexEq y x := by
  intro y hy he
  obtain ⟨i, hi, rfl⟩ := List.getElem_of_mem hy
  obtain ⟨h1, h2⟩ := at_spec ht x
  have hge : atB t x ≤ i := by
    rcases Nat.lt_or_ge i (atB t x) with h4 | h4
    · exact absurd he (lex_not_eq (h1 i hi h4))
    · exact h4
  have : thereB t x = true := by
    unfold thereB isB
    have hp : atB t x < t.length := by omega
    rw [Bool.and_eq_true]
    refine ⟨decide_eq_true hp, decide_eq_true ?_⟩
    show g_cmpT (el tTrigger t ((atB t x : Nat) : Int)) x = 0
    rw [el_at hp]
    rcases Nat.lt_or_ge (atB t x) i with h5 | h5
    · exact absurd ((lex_lt_eq he).1 (ht.rise _ i hi h5)) (h2 _ hp (Nat.le_refl _))
    · have : i = atB t x := by omega
      exact cmpT_zero.2 (by rw [← getElem_congr_idx this]; exact he)
  rw [h] at this; cases this

theorem split_there {t : List (den tTrigger)} (ht : Tab t) {x : den tTrigger} (h : thereB t x = true) : ∃ A y B, t = A ++ y :: B ∧ A.length = atB t x ∧ (∀ z ∈ A, lexLt z x) ∧ lexEq y x ∧ ∀ z ∈ B, lexLt x z := by
  obtain ⟨hp, he⟩ := there_true h
  obtain ⟨h1, h2⟩ := at_spec ht x
  refine ⟨t.take (atB t x), t[atB t x], t.drop (atB t x + 1), ?_, by rw [List.length_take]; omega, fun z hz => ?_, he, fun z hz => ?_⟩
  · rw [← List.drop_eq_getElem_cons hp, List.take_append_drop]
  · obtain ⟨i, hi, rfl⟩ := List.getElem_of_mem hz
    rw [List.length_take] at hi
    rw [List.getElem_take]
    exact h1 i (by omega) (by omega)
  · obtain ⟨i, hi, rfl⟩ := List.getElem_of_mem hz
    rw [List.length_drop] at hi
    rw [List.getElem_drop]
    exact (lex_eq_lt he).1 (ht.rise _ _ (by omega) (by omega))

theorem split_not {t : List (den tTrigger)} (ht : Tab t) {x : den tTrigger} (h : thereB t x = false) : ∃ A B, t = A ++ B ∧ A.length = atB t x ∧ (∀ z ∈ A, lexLt z x) ∧ ∀ z ∈ B, lexLt x z := by
  obtain ⟨h1, h2⟩ := at_spec ht x
  have hn := there_false ht h
  refine ⟨t.take (atB t x), t.drop (atB t x), (List.take_append_drop _ _).symm, by have := atB_le t x; rw [List.length_take]; omega, fun z hz => ?_, fun z hz => ?_⟩
  · obtain ⟨i, hi, rfl⟩ := List.getElem_of_mem hz
    rw [List.length_take] at hi
    rw [List.getElem_take]
    exact h1 i (by omega) (by omega)
  · have hm := List.mem_of_mem_drop hz
    obtain ⟨i, hi, rfl⟩ := List.getElem_of_mem hz
    rw [List.length_drop] at hi
    rw [List.getElem_drop] at hm ⊢
    rcases lex_tri (t[atB t x + i]'(by omega)) x with h5 | h5 | h5
    · exact absurd h5 (h2 _ (by omega) (by omega))
    · exact absurd h5 (hn _ hm)
    · exact h5

/-- Identifiers that are such. -/
def okTr (x : den tTrigger) : Prop := (x.1.length = 32 ∧ byt x.1) ∧ x.2.1.2.1.length = 32 ∧ byt x.2.1.2.1

theorem isIE_iff {y x : den tTrigger} (hy : okTr y) (hx : okTr x) : isIE y x.1 x.2.1 = true ↔ lexEq y x := by
  unfold isIE
  rw [Bool.and_eq_true, decide_eq_true_eq, decide_eq_true_eq]
  constructor
  · rintro ⟨h1, h2⟩
    unfold lexEq
    rw [h1, h2]
    exact ⟨rfl, rfl, rfl, rfl⟩
  · rintro ⟨h1, h2, h3, h4⟩
    refine ⟨vB_inj (by rw [hy.1.1, hx.1.1]) hy.1.2 hx.1.2 h1, ?_⟩
    have e3 := vB_inj (by rw [hy.2.1, hx.2.1]) hy.2.2 hx.2.2 h3
    obtain ⟨yi, ⟨yk, yd, yh, ⟨⟩⟩, yu, ⟨⟩⟩ := y
    obtain ⟨xi, ⟨xk, xd, xh, ⟨⟩⟩, xu, ⟨⟩⟩ := x
    have h2 : yk = xk := h2
    have h4 : yh = xh := h4
    have e3 : yd = xd := e3
    rw [h2, e3, h4]

theorem isIE_false {y x : den tTrigger} (hy : okTr y) (hx : okTr x) (h : ¬ lexEq y x) : isIE y x.1 x.2.1 = false := by
  cases hc : isIE y x.1 x.2.1 with
  | false => rfl
  | true => exact absurd ((isIE_iff hy hx).1 hc) h

section
variable {A B : List (den tTrigger)} {x y : den tTrigger}

theorem find_there (hx : okTr x) (hA : ∀ z ∈ A, okTr z) (hy : okTr y) (h1 : ∀ z ∈ A, lexLt z x) (h2 : lexEq y x) : g_Find (A ++ y :: B) x.1 x.2.1 = y := by
  unfold g_Find
  rw [List.find?_append, List.find?_eq_none.2 (fun z hz => by rw [isIE_false (hA z hz) hx (lex_not_eq (h1 z hz))]; simp), List.find?_cons_of_pos (p := fun z => isIE z x.1 x.2.1) ((isIE_iff hy hx).2 h2)]
  rfl
theorem lex_not_eq' {a b : den tTrigger} (h : lexLt a b) : ¬ lexEq b a := fun e => lex_irrefl ((lex_lt_eq e).1 h)
theorem without_part (hx : okTr x) (hA : ∀ z ∈ A, okTr z) (h1 : ∀ z ∈ A, ¬ lexEq z x) : g_Without A x.1 x.2.1 = A := by
  unfold g_Without
  exact List.filter_eq_self.2 fun z hz => by rw [isIE_false (hA z hz) hx (h1 z hz)]; rfl
theorem without_there (hx : okTr x) (hA : ∀ z ∈ A, okTr z) (hy : okTr y) (hB : ∀ z ∈ B, okTr z) (h1 : ∀ z ∈ A, lexLt z x) (h2 : lexEq y x) (h3 : ∀ z ∈ B, lexLt x z) : g_Without (A ++ y :: B) x.1 x.2.1 = A ++ B := by
  have eA := without_part hx hA fun z hz => lex_not_eq (h1 z hz)
  have eB := without_part hx hB fun z hz => lex_not_eq' (h3 z hz)
  unfold g_Without at *
  rw [List.filter_append, List.filter_cons, if_neg (by rw [(isIE_iff hy hx).2 h2]; simp), eA, eB]
theorem find_not (hx : okTr x) (hA : ∀ z ∈ A, okTr z) (h1 : ∀ z ∈ A, ¬ lexEq z x) : g_Find A x.1 x.2.1 = noT := by
  unfold g_Find
  rw [List.find?_eq_none.2 (fun z hz => by rw [isIE_false (hA z hz) hx (h1 z hz)]; simp)]
  rfl

theorem putD_at (h1 : ∀ z ∈ A, lexLt z x) (h3 : ∀ z ∈ B, lexLt x z) : putD x (A ++ B) = A ++ x :: B := by
  induction A with
  | nil =>
    cases B with
    | nil => rfl
    | cons z B =>
      show (if g_Less x z then x :: z :: B else z :: putD x B) = x :: z :: B
      exact if_pos (decide_eq_true (cmpT_lt.2 (h3 z (List.mem_cons_self ..))))
  | cons z A ih =>
    show (if g_Less x z then x :: z :: (A ++ B) else z :: putD x (A ++ B)) = z :: (A ++ x :: B)
    rw [if_neg, ih (fun w hw => h1 w (List.mem_cons_of_mem _ hw))]
    intro hc
    have := cmpT_lt.1 (of_decide_eq_true hc)
    exact lex_irrefl (lex_trans this (h1 z (List.mem_cons_self ..)))
end

theorem until_key {x : den tTrigger} {u : Int} {z : den tTrigger} : (lexLt (untilT x u) z ↔ lexLt x z) ∧ (lexLt z (untilT x u) ↔ lexLt z x) := ⟨Iff.rfl, Iff.rfl⟩

theorem may_until {x : den tTrigger} (h : g_may x = true) : 0 ≤ (x.2.2.1 : Int) := by
  unfold g_may at h
  rw [Bool.and_eq_true, Bool.and_eq_true] at h
  exact of_decide_eq_true h.1.2

/-- Dropping is as the document says. -/
theorem drop_law {t : List (den tTrigger)} (ht : g_Right t = true) (hk : ∀ z ∈ t, okTr z) (id : den tId) (e : den tEntry) (hx : okTr (keyTr id e)) :
    ((g_Find t id e).2.2.1 < (0 : Int) ∧ g_Drop t id e = ([], 6)) ∨ (¬ (g_Find t id e).2.2.1 < (0 : Int) ∧ g_Drop t id e = (g_Without t id e, 0)) := by
  have hT := tab_of_right ht
  cases h : thereB t (keyTr id e) with
  | false =>
    left
    have e1 : g_Find t id e = noT := find_not (x := keyTr id e) hx hk (there_false hT h)
    rw [e1]
    refine ⟨by show (-1 : Int) < 0; decide, ?_⟩
    unfold g_Drop; rw [if_pos ht, if_neg (by rw [h]; simp)]
  | true =>
    right
    obtain ⟨A, y, B, rfl, hl, h1, h2, h3⟩ := split_there hT h
    have kA : ∀ z ∈ A, okTr z := fun z hz => hk z (List.mem_append_left _ hz)
    have ky := hk y (by simp)
    have kB : ∀ z ∈ B, okTr z := fun z hz => hk z (by simp [hz])
    have e1 : g_Find (A ++ y :: B) id e = y := find_there (x := keyTr id e) hx kA ky h1 h2
    have e2 : g_Without (A ++ y :: B) id e = A ++ B := without_there (x := keyTr id e) hx kA ky kB h1 h2 h3
    rw [e1, e2]
    refine ⟨fun h5 => Int.lt_irrefl _ (Int.lt_of_le_of_lt (may_until (hT.may y (by simp))) h5), ?_⟩
    unfold g_Drop
    rw [if_pos ht, if_pos h, ← hl, List.take_left' rfl]
    congr 2
    rw [← List.drop_drop, List.drop_left' rfl]; rfl

/-- Putting is as the document says. -/
theorem put_law {t : List (den tTrigger)} (ht : g_Right t = true) (hk : ∀ z ∈ t, okTr z) (x : den tTrigger) (hx : okTr x) (hm : g_may x = true) :
    ((g_PutD t x).length ≤ 32 ∧ g_Put t x = (g_PutD t x, 0)) ∨ (¬ (g_PutD t x).length ≤ 32 ∧ g_Put t x = ([], 8)) := by
  have hT := tab_of_right ht
  have hc : (g_Right t && g_may x) = true := by rw [ht, hm]; rfl
  cases h : thereB t x with
  | false =>
    have e1 : g_Find t x.1 x.2.1 = noT := find_not hx hk (there_false hT h)
    have e2 : g_Without t x.1 x.2.1 = t := without_part hx hk (there_false hT h)
    have e3 : lastT t x = x := by
      unfold lastT
      rw [e1]
      exact if_neg fun h5 => by
        have h5 : (x.2.2.1 : Int) < -1 := h5
        have := may_until hm
        exact absurd (Int.lt_of_le_of_lt this h5) (by decide)
    obtain ⟨A, B, hAB, hl, h1, h3⟩ := split_not hT h
    have e4 : g_PutD t x = A ++ x :: B := by
      unfold g_PutD
      rw [e3, e2, hAB]
      exact putD_at h1 h3
    have e5 : (g_PutD t x).length = t.length + 1 := by rw [e4, hAB]; simp; omega
    have hlen := hT.len
    by_cases h32 : t.length = 32
    · right
      refine ⟨by omega, ?_⟩
      unfold g_Put; rw [if_pos hc, if_neg (by rw [h]; simp), if_pos h32]
    · left
      refine ⟨by omega, ?_⟩
      unfold g_Put; rw [if_pos hc, if_neg (by rw [h]; simp), if_neg h32, e4, ← hl]
      unfold putIn
      rw [hAB, List.take_left' rfl, List.drop_left' rfl]
      simp
  | true =>
    left
    obtain ⟨A, y, B, hAB, hl, h1, h2, h3⟩ := split_there hT h
    subst hAB
    have kA : ∀ z ∈ A, okTr z := fun z hz => hk z (List.mem_append_left _ hz)
    have ky := hk y (by simp)
    have kB : ∀ z ∈ B, okTr z := fun z hz => hk z (by simp [hz])
    have e1 := find_there (B := B) hx kA ky h1 h2
    have e2 := without_there hx kA ky kB h1 h2 h3
    have hie := (isIE_iff ky hx).2 h2
    unfold isIE at hie
    rw [Bool.and_eq_true, decide_eq_true_eq, decide_eq_true_eq] at hie
    obtain ⟨hi1, hi2⟩ := hie
    have e3 : lastT (A ++ y :: B) x = untilT y (maxI y.2.2.1 x.2.2.1) := by
      unfold lastT
      rw [e1]
      unfold untilT maxI
      rw [hi1, hi2]
      obtain ⟨xi, xt, (xu : Int), ⟨⟩⟩ := x
      obtain ⟨yi, yt, (yu : Int), ⟨⟩⟩ := y
      show (if xu < yu then (xi, xt, yu, ()) else (xi, xt, xu, ())) = (xi, xt, (if yu < xu then xu else yu), ())
      by_cases h6 : xu < yu
      · rw [if_pos h6, if_neg (by omega)]
      · rw [if_neg h6]
        by_cases h7 : yu < xu
        · rw [if_pos h7]
        · rw [if_neg h7, show xu = yu by omega]
    have e4 : g_PutD (A ++ y :: B) x = A ++ untilT y (maxI y.2.2.1 x.2.2.1) :: B := by
      unfold g_PutD
      rw [e3, e2]
      exact putD_at (fun z hz => (lex_lt_eq h2).2 (h1 z hz)) (fun z hz => (lex_eq_lt h2).2 (h3 z hz))
    have hp := thereB_lt h
    have hy : el tTrigger (A ++ y :: B) ((atB (A ++ y :: B) x : Nat) : Int) = y := by
      rw [el_at hp]
      have : (A ++ y :: B)[A.length]? = some y := by simp
      rw [hl] at this
      exact Option.some.inj ((List.getElem?_eq_getElem hp).symm.trans this)
    refine ⟨by rw [e4]; have := hT.len; simp at this ⊢; omega, ?_⟩
    unfold g_Put
    rw [if_pos hc, if_pos h, hy, e4, ← hl]
    congr 1
    rw [List.set_append_right _ _ (Nat.le_refl _), Nat.sub_self, List.set_cons_zero]

end Go.Proofs.Ytnccacngedeoeaa

/- Tables, further: what may be, put into, matched. No program here. -/
namespace Go.Proofs.Ytnccacngedeoeaa
open Go Go.RowKit

/-! ### Tables that may be, as rising rows -/

theorem right_iff {t : List (den tTrigger)} : g_Right t = true ↔ (∀ x ∈ t, g_may x = true) ∧ t.Pairwise lexLt ∧ t.length ≤ 32 := by
  constructor
  · intro h
    have hT := tab_of_right h
    exact ⟨hT.may, List.pairwise_iff_getElem.2 fun i j hi hj hij => hT.rise i j hj hij, hT.len⟩
  · rintro ⟨h1, h2, h3⟩
    rw [List.pairwise_iff_getElem] at h2
    unfold g_Right okFrom
    rw [Bool.and_eq_true, decide_eq_true_eq, List.all_eq_true]
    refine ⟨fun i hi => ?_, h3⟩
    rw [List.mem_range'_1] at hi
    have hi : i < t.length := by omega
    unfold okAt
    rw [el_at hi, h1 _ (List.getElem_mem hi), Bool.true_and]
    cases i with
    | zero => rfl
    | succ j =>
      rw [show (((j + 1 : Nat) : Int) - 1) = ((j : Nat) : Int) by omega, el_at (show j < t.length by omega)]
      have : g_Less t[j] t[j + 1] = true := decide_eq_true (cmpT_lt.2 (h2 j (j + 1) (by omega) hi (by omega)))
      rw [this, Bool.or_true]

theorem pw_ext : ∀ {a b : List (den tTrigger)}, a.Pairwise lexLt → b.Pairwise lexLt → (∀ z, z ∈ a ↔ z ∈ b) → a = b
  | [], [], _, _, _ => rfl
  | [], y :: b, _, _, h => by have := (h y).2 (List.mem_cons_self ..); cases this
  | x :: a, [], _, _, h => by have := (h x).1 (List.mem_cons_self ..); cases this
  | x :: a, y :: b, ha, hb, h => by
    rw [List.pairwise_cons] at ha hb
    have e : x = y := by
      rcases List.mem_cons.1 ((h x).1 (List.mem_cons_self ..)) with e | h1
      · exact e
      · rcases List.mem_cons.1 ((h y).2 (List.mem_cons_self ..)) with e | h2
        · exact e.symm
        · exact absurd (lex_trans (ha.1 _ h2) (hb.1 _ h1)) lex_irrefl
    subst e
    rw [pw_ext ha.2 hb.2 fun z => ⟨fun hz => ?_, fun hz => ?_⟩]
    · rcases List.mem_cons.1 ((h z).1 (List.mem_cons_of_mem _ hz)) with e | h1
      · rw [e] at hz; exact absurd (ha.1 _ hz) lex_irrefl
      · exact h1
    · rcases List.mem_cons.1 ((h z).2 (List.mem_cons_of_mem _ hz)) with e | h1
      · rw [e] at hz; exact absurd (hb.1 _ hz) lex_irrefl
      · exact h1

theorem right_filter {t : List (den tTrigger)} (h : g_Right t = true) (p : den tTrigger → Bool) : g_Right (t.filter p) = true := by
  obtain ⟨h1, h2, h3⟩ := right_iff.1 h
  exact right_iff.2 ⟨fun x hx => h1 x (List.mem_filter.1 hx).1, h2.filter _, Nat.le_trans (List.length_filter_le _ _) h3⟩

/-! ### Putting -/

theorem put_cases {t : List (den tTrigger)} (ht : g_Right t = true) (x : den tTrigger) (hm : g_may x = true) :
    (∃ A B, t = A ++ B ∧ (∀ z ∈ A, lexLt z x) ∧ (∀ z ∈ B, lexLt x z) ∧ thereB t x = false ∧ ((t.length = 32 ∧ g_Put t x = ([], 8)) ∨ (t.length < 32 ∧ g_Put t x = (A ++ x :: B, 0)))) ∨
    (∃ A y B, t = A ++ y :: B ∧ (∀ z ∈ A, lexLt z x) ∧ lexEq y x ∧ (∀ z ∈ B, lexLt x z) ∧ thereB t x = true ∧ g_Put t x = (A ++ untilT y (maxI y.2.2.1 x.2.2.1) :: B, 0)) := by
  have hT := tab_of_right ht
  have hc : (g_Right t && g_may x) = true := by rw [ht, hm]; rfl
  cases h : thereB t x with
  | false =>
    left
    obtain ⟨A, B, hAB, hl, h1, h3⟩ := split_not hT h
    refine ⟨A, B, hAB, h1, h3, rfl, ?_⟩
    have hlen := hT.len
    by_cases h32 : t.length = 32
    · left
      refine ⟨h32, ?_⟩
      unfold g_Put; rw [if_pos hc, if_neg (by rw [h]; simp), if_pos h32]
    · right
      refine ⟨by omega, ?_⟩
      unfold g_Put; rw [if_pos hc, if_neg (by rw [h]; simp), if_neg h32, ← hl]
      unfold putIn
      rw [hAB, List.take_left' rfl, List.drop_left' rfl]
      simp
  | true =>
    right
    obtain ⟨A, y, B, hAB, hl, h1, h2, h3⟩ := split_there hT h
    refine ⟨A, y, B, hAB, h1, h2, h3, rfl, ?_⟩
    subst hAB
    have hp := thereB_lt h
    have hy : el tTrigger (A ++ y :: B) ((atB (A ++ y :: B) x : Nat) : Int) = y := by
      rw [el_at hp]
      have : (A ++ y :: B)[A.length]? = some y := by simp
      rw [hl] at this
      exact Option.some.inj ((List.getElem?_eq_getElem hp).symm.trans this)
    unfold g_Put
    rw [if_pos hc, if_pos h, hy, ← hl]
    congr 1
    rw [List.set_append_right _ _ (Nat.le_refl _), Nat.sub_self, List.set_cons_zero]

theorem pw_mid {A B : List (den tTrigger)} {x : den tTrigger} (h : (A ++ B).Pairwise lexLt) (h1 : ∀ z ∈ A, lexLt z x) (h2 : ∀ z ∈ B, lexLt x z) : (A ++ x :: B).Pairwise lexLt := by
  rw [List.pairwise_append] at h ⊢
  obtain ⟨hA, hB, hAB⟩ := h
  refine ⟨hA, List.pairwise_cons.2 ⟨h2, hB⟩, fun a ha b hb => ?_⟩
  rcases List.mem_cons.1 hb with rfl | hb
  · exact h1 a ha
  · exact hAB a ha b hb

theorem pw_out {A B : List (den tTrigger)} {y : den tTrigger} (h : (A ++ y :: B).Pairwise lexLt) : (A ++ B).Pairwise lexLt := by
  rw [List.pairwise_append] at h ⊢
  exact ⟨h.1, (List.pairwise_cons.1 h.2.1).2, fun a ha b hb => h.2.2 a ha b (List.mem_cons_of_mem _ hb)⟩

theorem may_max {x y : den tTrigger} (hx : g_may x = true) (hy : g_may y = true) : g_may (untilT y (maxI y.2.2.1 x.2.2.1)) = true := by
  unfold g_may at *
  simp only [Bool.and_eq_true, decide_eq_true_eq] at *
  obtain ⟨⟨x1, x2⟩, x3⟩ := hx
  obtain ⟨⟨y1, y2⟩, y3⟩ := hy
  obtain ⟨yi, yt, (yu : Int), ⟨⟩⟩ := y
  obtain ⟨xi, xt, (xu : Int), ⟨⟩⟩ := x
  show ((_ = true ∧ (0 : Int) ≤ maxI yu xu) ∧ maxI yu xu ≤ (1099511627776 : Int))
  have x2 : 0 ≤ xu := x2
  have x3 : xu ≤ 1099511627776 := x3
  have y2 : 0 ≤ yu := y2
  have y3 : yu ≤ 1099511627776 := y3
  refine ⟨⟨y1, ?_⟩, ?_⟩ <;> (unfold maxI; split <;> omega)

/-- What putting comes to, when it is done. -/
theorem put_right {t : List (den tTrigger)} (ht : g_Right t = true) (x : den tTrigger) (hm : g_may x = true) (hl : t.length < 32 ∨ thereB t x = true) :
    ∃ a, g_Put t x = (a, 0) ∧ g_Right a = true ∧ a.length ≤ t.length + 1 := by
  obtain ⟨r1, r2, r3⟩ := right_iff.1 ht
  rcases put_cases ht x hm with ⟨A, B, rfl, h1, h2, h3, h4⟩ | ⟨A, y, B, rfl, h1, h2, h3, _, h4⟩
  · rcases h4 with ⟨h5, _⟩ | ⟨h5, h6⟩
    · rcases hl with hl | hl
      · omega
      · rw [h3] at hl; cases hl
    · refine ⟨_, h6, right_iff.2 ⟨fun z hz => ?_, pw_mid r2 h1 h2, by simp at h5 ⊢; omega⟩, by simp; omega⟩
      rcases List.mem_append.1 hz with hz | hz
      · exact r1 z (List.mem_append_left _ hz)
      · rcases List.mem_cons.1 hz with rfl | hz
        · exact hm
        · exact r1 z (List.mem_append_right _ hz)
  · refine ⟨_, h4, right_iff.2 ⟨fun z hz => ?_, pw_mid (pw_out r2) (fun z hz => (lex_lt_eq h2).2 (h1 z hz)) (fun z hz => (lex_eq_lt h2).2 (h3 z hz)), by simp at r3 ⊢; omega⟩, by simp⟩
    rcases List.mem_append.1 hz with hz | hz
    · exact r1 z (List.mem_append_left _ hz)
    · rcases List.mem_cons.1 hz with rfl | hz
      · exact may_max hm (r1 y (by simp))
      · exact r1 z (List.mem_append_right _ (List.mem_cons_of_mem _ hz))

theorem put_not {t : List (den tTrigger)} {x : den tTrigger} (h : (g_Right t && g_may x) = false) : g_Put t x = ([], 1) := by
  unfold g_Put; rw [if_neg (by rw [h]; simp)]

theorem put_ok {t : List (den tTrigger)} {x : den tTrigger} (h : (g_Put t x).2 = 0) : g_Right t = true ∧ g_may x = true := by
  cases hc : (g_Right t && g_may x) with
  | true => exact (Bool.and_eq_true _ _ ▸ hc)
  | false => rw [put_not hc] at h; cases h

/-! ### Bits in common -/

theorem cmn_full {a b : List Int} : ∀ (k i : Nat), cmn a b k i = i + k → ∀ j : Nat, i ≤ j → j < i + k → g_Bit a (j : Nat) = g_Bit b (j : Nat)
  | 0, i, _, j, h1, h2 => by omega
  | k + 1, i, h, j, h1, h2 => by
    rw [cmn] at h
    split at h
    · rename_i hb
      by_cases e : j = i
      · rw [e]; exact hb
      · exact cmn_full k (i + 1) (by omega) j (by omega) (by omega)
    · omega

theorem cmn_same (a : List Int) : ∀ (k i : Nat), cmn a a k i = i + k
  | 0, i => rfl
  | k + 1, i => by rw [cmn, if_pos rfl, cmn_same a k (i + 1)]; omega

theorem common_same (a : List Int) : g_Common a a = 256 := by unfold g_Common; rw [cmn_same]; rfl

theorem common_full {a b : List Int} (ha : a.length = 32 ∧ byt a) (hb : b.length = 32 ∧ byt b) (h : g_Common a b = 256) : a = b := by
  have h : cmn a b 256 0 = 256 := by unfold g_Common at h; omega
  have hf := cmn_full 256 0 (by rw [h])
  refine List.ext_getElem (by rw [ha.1, hb.1]) fun i h1 h2 => ?_
  obtain ⟨a0, a1⟩ := ha.2 _ (List.getElem_mem h1)
  obtain ⟨b0, b1⟩ := hb.2 _ (List.getElem_mem h2)
  have key : ∀ k : Nat, k < 8 → a[i] / 2 ^ (7 - k) % 2 = b[i] / 2 ^ (7 - k) % 2 := fun k hk => by
    have := hf (8 * i + k) (by omega) (by omega)
    unfold g_Bit at this
    have e1 : ((8 * i + k : Nat) : Int) / 8 = (i : Nat) := by omega
    have e2 : ((8 * i + k : Nat) : Int) % 8 = (k : Nat) := by omega
    have e3 : ((7 : Int) - (k : Nat)).toNat = 7 - k := by omega
    rw [e1, e2, e3, el_at (e := .int .u8) h1, el_at (e := .int .u8) h2] at this
    exact this
  have k0 := key 0 (by omega)
  have k1 := key 1 (by omega)
  have k2 := key 2 (by omega)
  have k3 := key 3 (by omega)
  have k4 := key 4 (by omega)
  have k5 := key 5 (by omega)
  have k6 := key 6 (by omega)
  have k7 := key 7 (by omega)
  simp only [Nat.sub_zero, Nat.reduceSub, Int.reducePow] at k0 k1 k2 k3 k4 k5 k6 k7
  generalize a[i] = x at *
  generalize b[i] = y at *
  omega

/-! ### Matching -/

theorem match_cases {t : List (den tTrigger)} (id : den tId) (hr : g_Right t = true) : (g_Match t id = ([], 6) ∧ ∀ x ∈ t, bitsC id x ≤ 127) ∨
    ∃ h ∈ t, t.find? (fun x => decide (bitsC id x = bitsC id h)) = some h ∧ 127 < bitsC id h ∧ (∀ x ∈ t, bitsC id x ≤ bitsC id h) ∧ g_Match t id = (t.filter (fun x => decide (x.1 = h.1)), 0) := by
  unfold g_Match
  rw [if_pos hr]
  rcases likest_spec id t 127 (zero tId) with ⟨h1, h2⟩ | ⟨h, h1, h2, h3, h4⟩
  · left
    rw [h1]
    exact ⟨if_pos (by decide), h2⟩
  · right
    have hm := List.mem_of_find?_eq_some h1
    have hh : bitsC id h = (likest id t 127 (zero tId)).1 := by simpa using List.find?_some h1
    rw [← hh] at h1 h3 h4
    refine ⟨h, hm, h1, h3, h4, ?_⟩
    rw [if_neg (by omega), h2]

/-- Of what a table matches it matches as much without what is not alike. -/
theorem match_near {t : List (den tTrigger)} (id : den tId) (hr : g_Right t = true) : g_Match (t.filter fun x => decide (128 ≤ g_Common x.1 id)) id = g_Match t id ∧
    ((g_Match t id).2 = 0 ↔ t.filter (fun x => decide (128 ≤ g_Common x.1 id)) ≠ []) := by
  have hn := right_filter hr fun x => decide (128 ≤ g_Common x.1 id)
  rcases match_cases id hr with ⟨h1, h2⟩ | ⟨h, h1, h2, h3, h4, h5⟩
  · have e : t.filter (fun x => decide (128 ≤ g_Common x.1 id)) = [] := List.filter_eq_nil_iff.2 fun x hx => by
      have : g_Common x.1 id ≤ 127 := h2 x hx
      simp; omega
    rw [e, h1]
    exact ⟨rfl, ⟨fun h => (by cases h), fun h => absurd rfl h⟩⟩
  · have hin : h ∈ t.filter fun x => decide (128 ≤ g_Common x.1 id) := List.mem_filter.2 ⟨h1, decide_eq_true (by have : 127 < g_Common h.1 id := h3; omega)⟩
    refine ⟨?_, ⟨fun _ e => (by rw [e] at hin; cases hin), fun _ => (by rw [h5])⟩⟩
    rcases match_cases id hn with ⟨_, g2⟩ | ⟨g, g1, g2, g3, g4, g5⟩
    · have := g2 h hin; omega
    · have eM : bitsC id g = bitsC id h := Int.le_antisymm (h4 g (List.mem_filter.1 g1).1) (g4 h hin)
      have e : g = h := by
        rw [List.find?_filter, eM] at g2
        have e2 : (fun x : den tTrigger => decide (decide (128 ≤ g_Common x.1 id) = true ∧ decide (bitsC id x = bitsC id h) = true)) = fun x => decide (bitsC id x = bitsC id h) := by
          funext x
          rw [Bool.eq_iff_iff, decide_eq_true_eq, decide_eq_true_eq, decide_eq_true_eq]
          refine ⟨fun h => h.2, fun e => ⟨?_, e⟩⟩
          have : bitsC id x = g_Common x.1 id := rfl
          omega
        rw [e2, h2] at g2
        exact (Option.some.inj g2).symm
      rw [g5, h5, e, List.filter_filter]
      congr 1
      refine List.filter_congr fun x hx => ?_
      rw [Bool.eq_iff_iff, Bool.and_eq_true, decide_eq_true_eq, decide_eq_true_eq]
      refine ⟨fun h => h.1, fun e => ⟨e, ?_⟩⟩
      rw [e]
      have : bitsC id h = g_Common h.1 id := rfl
      omega

/-- An identifier that is there matches itself alone. -/
theorem match_own {t : List (den tTrigger)} (hr : g_Right t = true) (hk : ∀ z ∈ t, okTr z) {x : den tTrigger} (hx : okTr x) {z : den tTrigger} (hz : z ∈ t) (hid : z.1 = x.1) :
    g_Match t x.1 = (t.filter (fun y => decide (y.1 = x.1)), 0) := by
  have hb : bitsC x.1 z = 256 := by show g_Common z.1 x.1 = 256; rw [hid]; exact common_same _
  rcases match_cases x.1 hr with ⟨_, h2⟩ | ⟨h, h1, _, _, h4, h5⟩
  · have := h2 z hz; omega
  · have e : h.1 = x.1 := common_full (hk h h1).1 hx.1 (by
      have := h4 z hz
      have := (bitsC_range x.1 h).2
      show bitsC x.1 h = 256
      omega)
    rw [h5, e]

end Go.Proofs.Ytnccacngedeoeaa

/- Tables, put together: in whatever order, and of the parts of a cut. No program here. -/
namespace Go.Proofs.Ytnccacngedeoeaa
open Go Go.RowKit

theorem lex_refl (a : den tTrigger) : lexEq a a := ⟨rfl, rfl, rfl, rfl⟩
theorem lex_symm {a b : den tTrigger} (h : lexEq a b) : lexEq b a := by obtain ⟨h1, h2, h3, h4⟩ := h; exact ⟨h1.symm, h2.symm, h3.symm, h4.symm⟩
theorem lex_etrans {a b c : den tTrigger} (h : lexEq a b) (k : lexEq b c) : lexEq a c := by
  obtain ⟨h1, h2, h3, h4⟩ := h; obtain ⟨k1, k2, k3, k4⟩ := k
  exact ⟨h1.trans k1, h2.trans k2, h3.trans k3, h4.trans k4⟩

/-- Of one key and one time: the same. -/
theorem same_of {y x : den tTrigger} (hy : okTr y) (hx : okTr x) (h : lexEq y x) (hu : (y.2.2.1 : Int) = x.2.2.1) : y = x := by
  have := (isIE_iff hy hx).2 h
  unfold isIE at this
  rw [Bool.and_eq_true, decide_eq_true_eq, decide_eq_true_eq] at this
  obtain ⟨h1, h2⟩ := this
  obtain ⟨yi, yt, yu, ⟨⟩⟩ := y
  obtain ⟨xi, xt, xu, ⟨⟩⟩ := x
  have h1 : yi = xi := h1
  have h2 : yt = xt := h2
  have hu : yu = xu := hu
  rw [h1, h2, hu]

theorem until_ok {y : den tTrigger} (h : okTr y) (u : Int) : okTr (untilT y u) := h
theorem max_le (a b : Int) : a ≤ maxI a b ∧ b ≤ maxI a b := by unfold maxI; split <;> omega
theorem max_cases (a b : Int) : (maxI a b = a ∧ b ≤ a) ∨ (maxI a b = b ∧ a ≤ b) := by unfold maxI; split <;> omega

/-! ### Putting one behind the other -/

def stepT (a : List (den tTrigger)) (x : den tTrigger) : List (den tTrigger) := if (g_Put a x).2 = 0 then (g_Put a x).1 else a

structure Made (L a : List (den tTrigger)) : Prop where
  right : g_Right a = true
  len : a.length ≤ L.length
  mem : ∀ z ∈ a, z ∈ L ∧ g_may z = true
  top : ∀ z ∈ a, ∀ y ∈ L, g_may y = true → lexEq y z → (y.2.2.1 : Int) ≤ z.2.2.1
  all : ∀ y ∈ L, g_may y = true → ∃ z ∈ a, lexEq y z

theorem made_nil : Made [] [] := ⟨rfl, Nat.le_refl _, fun _ h => (by cases h), fun _ h => (by cases h), fun _ h => (by cases h)⟩

theorem made_step {L a : List (den tTrigger)} (h : Made L a) {x : den tTrigger} (hL : ∀ y ∈ L, okTr y) (hx : okTr x) (hlen : L.length < 32) : Made (L ++ [x]) (stepT a x) := by
  have hk : ∀ z ∈ a, okTr z := fun z hz => hL z (h.mem z hz).1
  cases hm : g_may x with
  | false =>
    have e : stepT a x = a := by unfold stepT; rw [put_not (by rw [hm, Bool.and_false])]; exact if_neg (by decide)
    rw [e]
    refine ⟨h.right, by have := h.len; simp; omega, fun z hz => ⟨List.mem_append_left _ (h.mem z hz).1, (h.mem z hz).2⟩, fun z hz y hy hmy hyz => ?_, fun y hy hmy => ?_⟩
    · rcases List.mem_append.1 hy with hy | hy
      · exact h.top z hz y hy hmy hyz
      · rw [List.mem_singleton.1 hy, hm] at hmy; cases hmy
    · rcases List.mem_append.1 hy with hy | hy
      · exact h.all y hy hmy
      · rw [List.mem_singleton.1 hy, hm] at hmy; cases hmy
  | true =>
    rcases put_cases h.right x hm with ⟨A, B, rfl, h1, h2, h3, h4⟩ | ⟨A, y0, B, rfl, h1, h2, h3, h3', h4⟩
    · rcases h4 with ⟨h5, _⟩ | ⟨h5, h6⟩
      · have := h.len; omega
      · obtain ⟨a', g1, g2, g3⟩ := put_right h.right x hm (.inl h5)
        have e : stepT (A ++ B) x = A ++ x :: B := by unfold stepT; rw [h6]; exact if_pos rfl
        have e2 : a' = A ++ x :: B := by rw [h6] at g1; exact (congrArg Prod.fst g1).symm
        rw [e]
        rw [e2] at g2
        have hin : ∀ z, z ∈ A ++ x :: B ↔ z ∈ A ++ B ∨ z = x := fun z => by
          simp only [List.mem_append, List.mem_cons]
          constructor
          · rintro (h | h | h) <;> simp [h]
          · rintro ((h | h) | h) <;> simp [h]
        have hne : ∀ z ∈ A ++ B, ¬ lexEq z x := fun z hz hc => by
          rcases List.mem_append.1 hz with hz | hz
          · exact lex_not_eq (h1 z hz) hc
          · exact lex_not_eq' (h2 z hz) hc
        refine ⟨g2, by have := h.len; simp at this ⊢; omega, fun z hz => ?_, fun z hz y hy hmy hyz => ?_, fun y hy hmy => ?_⟩
        · rcases (hin z).1 hz with hz | rfl
          · exact ⟨List.mem_append_left _ (h.mem z hz).1, (h.mem z hz).2⟩
          · exact ⟨by simp, hm⟩
        · rcases (hin z).1 hz with hz | rfl
          · rcases List.mem_append.1 hy with hy | hy
            · exact h.top z hz y hy hmy hyz
            · rw [List.mem_singleton.1 hy] at hyz
              exact absurd (lex_symm hyz) (hne z hz)
          · rcases List.mem_append.1 hy with hy | hy
            · obtain ⟨w, hw, hyw⟩ := h.all y hy hmy
              exact absurd (lex_etrans (lex_symm hyw) hyz) (hne w hw)
            · rw [List.mem_singleton.1 hy]; exact Int.le_refl _
        · rcases List.mem_append.1 hy with hy | hy
          · obtain ⟨w, hw, hyw⟩ := h.all y hy hmy
            exact ⟨w, (hin w).2 (.inl hw), hyw⟩
          · exact ⟨x, (hin x).2 (.inr rfl), by rw [List.mem_singleton.1 hy]; exact lex_refl x⟩
    · obtain ⟨a', g1, g2, g3⟩ := put_right h.right x hm (.inr h3')
      have e : stepT (A ++ y0 :: B) x = A ++ untilT y0 (maxI y0.2.2.1 x.2.2.1) :: B := by unfold stepT; rw [h4]; exact if_pos rfl
      have e2 : a' = A ++ untilT y0 (maxI y0.2.2.1 x.2.2.1) :: B := by rw [h4] at g1; exact (congrArg Prod.fst g1).symm
      rw [e]
      rw [e2] at g2
      have hy0 := h.mem y0 (by simp)
      have ky0 := hL y0 hy0.1
      have hw : untilT y0 (maxI y0.2.2.1 x.2.2.1) ∈ L ++ [x] := by
        rcases max_cases y0.2.2.1 x.2.2.1 with ⟨e1, _⟩ | ⟨e1, _⟩
        · rw [e1]; exact List.mem_append_left _ hy0.1
        · rw [same_of (y := untilT y0 (maxI y0.2.2.1 x.2.2.1)) (x := x) ky0 hx h2 e1]; simp
      have hwm : g_may (untilT y0 (maxI y0.2.2.1 x.2.2.1)) = true := may_max hm hy0.2
      have hwu : (y0.2.2.1 : Int) ≤ maxI y0.2.2.1 x.2.2.1 ∧ (x.2.2.1 : Int) ≤ maxI y0.2.2.1 x.2.2.1 := max_le _ _
      generalize hwd : untilT y0 (maxI y0.2.2.1 x.2.2.1) = w at *
      have hwk : lexEq w y0 := by rw [← hwd]; exact lex_refl y0
      have hwu' : (w.2.2.1 : Int) = maxI y0.2.2.1 x.2.2.1 := by rw [← hwd]; rfl
      have hin : ∀ z, z ∈ A ++ w :: B ↔ (z ∈ A ∨ z ∈ B) ∨ z = w := fun z => by
        simp only [List.mem_append, List.mem_cons]
        constructor
        · rintro (h | h | h) <;> simp [h]
        · rintro ((h | h) | h) <;> simp [h]
      have hab : ∀ z, z ∈ A ∨ z ∈ B → z ∈ A ++ y0 :: B := fun z hz => by rcases hz with hz | hz <;> simp [hz]
      have hne : ∀ z, z ∈ A ∨ z ∈ B → ¬ lexEq z x := fun z hz hc => by
        rcases hz with hz | hz
        · exact lex_not_eq (h1 z hz) hc
        · exact lex_not_eq' (h3 z hz) hc
      refine ⟨g2, by have := h.len; simp at this ⊢; omega, fun z hz => ?_, fun z hz y hy hmy hyz => ?_, fun y hy hmy => ?_⟩
      · rcases (hin z).1 hz with hz | rfl
        · exact ⟨List.mem_append_left _ (h.mem z (hab z hz)).1, (h.mem z (hab z hz)).2⟩
        · exact ⟨hw, hwm⟩
      · rcases (hin z).1 hz with hz | rfl
        · rcases List.mem_append.1 hy with hy | hy
          · exact h.top z (hab z hz) y hy hmy hyz
          · rw [List.mem_singleton.1 hy] at hyz
            exact absurd (lex_symm hyz) (hne z hz)
        · rw [hwu']
          rcases List.mem_append.1 hy with hy | hy
          · exact Int.le_trans (h.top y0 (by simp) y hy hmy (lex_etrans hyz hwk)) hwu.1
          · rw [List.mem_singleton.1 hy]; exact hwu.2
      · rcases List.mem_append.1 hy with hy | hy
        · obtain ⟨v, hv, hyv⟩ := h.all y hy hmy
          rcases List.mem_append.1 hv with hv | hv
          · exact ⟨v, (hin v).2 (.inl (.inl hv)), hyv⟩
          · rcases List.mem_cons.1 hv with rfl | hv
            · exact ⟨w, (hin w).2 (.inr rfl), lex_etrans hyv (lex_symm hwk)⟩
            · exact ⟨v, (hin v).2 (.inl (.inr hv)), hyv⟩
        · exact ⟨w, (hin w).2 (.inr rfl), by rw [List.mem_singleton.1 hy]; exact lex_symm (lex_etrans hwk h2)⟩

theorem made_same {L L' a a' : List (den tTrigger)} (h : Made L a) (h' : Made L' a') (hL : ∀ y ∈ L, okTr y) (hs : ∀ z, z ∈ L ↔ z ∈ L') : a = a' := by
  have key : ∀ {L L' a a' : List (den tTrigger)}, Made L a → Made L' a' → (∀ y ∈ L, okTr y) → (∀ z, z ∈ L ↔ z ∈ L') → ∀ z ∈ a, z ∈ a' := by
    intro L L' a a' h h' hL hs z hz
    obtain ⟨h1, h2⟩ := h.mem z hz
    obtain ⟨w, hw, hzw⟩ := h'.all z ((hs z).1 h1) h2
    obtain ⟨w1, w2⟩ := h'.mem w hw
    have u1 := h'.top w hw z ((hs z).1 h1) h2 hzw
    have u2 := h.top z hz w ((hs w).2 w1) w2 (lex_symm hzw)
    rw [same_of (hL z h1) (hL w ((hs w).2 w1)) hzw (Int.le_antisymm u1 u2)]
    exact hw
  exact pw_ext (right_iff.1 h.right).2.1 (right_iff.1 h'.right).2.1 fun z => ⟨key h h' hL hs z, key h' h (fun y hy => hL y ((hs y).2 hy)) (fun z => (hs z).symm) z⟩

/-- In the order that starts so far on. -/
def turnedK (c n : Nat) (i : Nat) : Nat := (i + c) % n
theorem turned_mem {α : Type} {l : List α} {c : Nat} (hc : c < l.length) (z : α) : z ∈ l ↔ ∃ i, i < l.length ∧ l[turnedK c l.length i]? = some z := by
  unfold turnedK
  constructor
  · intro h
    obtain ⟨j, hj, e⟩ := List.getElem_of_mem h
    refine ⟨(j + (l.length - c)) % l.length, Nat.mod_lt _ (by omega), ?_⟩
    have : ((j + (l.length - c)) % l.length + c) % l.length = j := by
      rw [Nat.mod_add_mod, show j + (l.length - c) + c = j + l.length by omega, Nat.add_mod_right, Nat.mod_eq_of_lt hj]
    rw [this, List.getElem?_eq_getElem hj, e]
  · rintro ⟨i, hi, e⟩
    exact List.mem_of_getElem? e

/-! ### The parts of a cut -/

theorem in_turn {x a b : List Int} (ha : a.length = 32 ∧ byt a) (hb : b.length = 32 ∧ byt b) (h : a ≠ b) : g_In x b a = !g_In x a b := by
  have hne : vB a ≠ vB b := fun e => h (vB_inj (by rw [ha.1, hb.1]) ha.2 hb.2 e)
  unfold g_In
  rw [if_neg h, if_neg (fun e => h e.symm)]
  by_cases h1 : vB a < vB b
  · rw [if_pos h1, if_neg (by omega), Bool.eq_iff_iff]
    simp only [Bool.or_eq_true, Bool.not_eq_true', Bool.and_eq_false_iff, decide_eq_true_eq, decide_eq_false_iff_not]
    omega
  · rw [if_neg h1, if_pos (by omega), Bool.eq_iff_iff]
    simp only [Bool.and_eq_true, Bool.not_eq_true', Bool.or_eq_false_iff, decide_eq_true_eq, decide_eq_false_iff_not]
    omega

theorem in_whole (x a : List Int) : g_In x a a = true := by unfold g_In; rw [if_pos rfl]

theorem parts_len {α : Type} (p : α → Bool) : ∀ t : List α, (t.filter p).length + (t.filter fun x => !p x).length = t.length
  | [] => rfl
  | x :: t => by
    have := parts_len p t
    rw [List.filter_cons, List.filter_cons]
    cases p x <;> simp <;> omega

structure Both (t b a : List (den tTrigger)) (i : Nat) (all : List (den tTrigger)) : Prop where
  right : g_Right all = true
  len : all.length = b.length + i
  mem : ∀ z, z ∈ all ↔ z ∈ b ∨ z ∈ a.take i

theorem both_step {t : List (den tTrigger)} (ht : g_Right t = true) (p : den tTrigger → Bool) {i : Nat} {all : List (den tTrigger)} (hi : i < (t.filter p).length) (h : Both t (t.filter fun x => !p x) (t.filter p) i all) :
    ∃ more, g_Put all (t.filter p)[i] = (more, 0) ∧ Both t (t.filter fun x => !p x) (t.filter p) (i + 1) more := by
  obtain ⟨t1, t2, t3⟩ := right_iff.1 ht
  have hpl := parts_len p t
  have hxm := List.getElem_mem hi
  have hxt := (List.mem_filter.1 hxm).1
  have hxp := (List.mem_filter.1 hxm).2
  have hpa := t2.filter p
  have huniq : ∀ {y z : den tTrigger}, y ∈ t → z ∈ t → lexEq y z → y = z := by
    intro y z hy hz he
    obtain ⟨j, hj, rfl⟩ := List.getElem_of_mem hy
    obtain ⟨k, hk, rfl⟩ := List.getElem_of_mem hz
    rw [List.pairwise_iff_getElem] at t2
    rcases Nat.lt_trichotomy j k with h | h | h
    · exact absurd he (lex_not_eq (t2 j k hj hk h))
    · subst h; rfl
    · exact absurd he (lex_not_eq' (t2 k j hk hj h))
  have hsub : ∀ z ∈ all, z ∈ t := fun z hz => by
    rcases (h.mem z).1 hz with h1 | h1
    · exact (List.mem_filter.1 h1).1
    · exact (List.mem_filter.1 (List.mem_of_mem_take h1)).1
  have hnot : (t.filter p)[i] ∉ all := fun hc => by
    rcases (h.mem _).1 hc with h1 | h1
    · have := (List.mem_filter.1 h1).2
      rw [hxp] at this; cases this
    · obtain ⟨j, hj, e⟩ := List.getElem_of_mem h1
      rw [List.length_take] at hj
      rw [List.getElem_take] at e
      rw [List.pairwise_iff_getElem] at hpa
      have := hpa j i (by omega) hi (by omega)
      rw [e] at this
      exact lex_irrefl this
  have hl := h.len
  rcases put_cases h.right _ (t1 _ hxt) with ⟨A, B, hAB, h1, h2, h3, h4⟩ | ⟨A, y, B, hAB, h1, h2, h3, _, h4⟩
  · rcases h4 with ⟨h5, _⟩ | ⟨h5, h6⟩
    · omega
    · obtain ⟨a', g1, g2, g3⟩ := put_right h.right _ (t1 _ hxt) (.inl h5)
      rw [h6] at g1
      have e := congrArg Prod.fst g1
      have e : A ++ (t.filter p)[i] :: B = a' := e
      refine ⟨_, h6, by rw [e]; exact g2, by rw [hAB] at hl; simp at hl ⊢; omega, fun z => ?_⟩
      rw [List.take_succ_eq_append_getElem hi]
      have hz := h.mem z
      rw [hAB] at hz
      rw [List.mem_append] at hz
      rw [List.mem_append, List.mem_append, List.mem_singleton, ← or_assoc (a := z ∈ List.filter (fun x => !p x) t), ← hz, List.mem_cons]
      constructor
      · rintro (h | h | h) <;> simp [h]
      · rintro ((h | h) | h) <;> simp [h]
  · exfalso
    have hy : y ∈ all := by rw [hAB]; simp
    rw [huniq (hsub y hy) hxt h2] at hy
    exact hnot hy

theorem both_end {t : List (den tTrigger)} (ht : g_Right t = true) (p : den tTrigger → Bool) {all : List (den tTrigger)} (h : Both t (t.filter fun x => !p x) (t.filter p) (t.filter p).length all) : all = t := by
  refine pw_ext (right_iff.1 h.right).2.1 (right_iff.1 ht).2.1 fun z => ?_
  rw [h.mem z, List.take_length, List.mem_filter, List.mem_filter]
  constructor
  · rintro (h | h) <;> exact h.1
  · intro hz
    cases hp : p z
    · exact .inl ⟨hz, by rfl⟩
    · exact .inr ⟨hz, rfl⟩

end Go.Proofs.Ytnccacngedeoeaa

/- A trigger that is alone; one of a key that nothing leads to. No program here. -/
namespace Go.Proofs.Ytnccacngedeoeaa
open Go Go.RowKit

def hostE (h : Int) : Ent := (2, List.replicate 32 (0 : Int), h, ())
def idE (id : List Int) : Ent := (1, id, (0 : Int), ())
def trOf (id : List Int) (h : Int) : Tg := (id, hostE h, (5 : Int), ())
def e00 : ByteArray := { data := { toList := [] } }
def pk0 (id : List Int) : Pk := ([idE id], (64 : Int), e00, ())
def pk1 (h : Int) : Pk := ([hostE h], (63 : Int), e00, ())

theorem runD_step (t : List Tg) (n : Nat) (s : Sx) (k : Nat) (p : Pk) (q : List Pk) : runD t (n + 1) s k (p :: q) = runD t n ((g_Step t p).1.foldl bump s) (k + 1) (q ++ (g_Step t p).1.flatMap pushO) := rfl
theorem runD_end (t : List Tg) (n : Nat) (s : Sx) (k : Nat) : runD t n s k [] = some (s, k) := by cases n <;> rfl

theorem hostE_is {h : Int} (h0 : 0 ≤ h) (h1 : h < 16) : g_Is (hostE h) = true := by
  unfold g_Is hostE
  have e1 : ¬ ((2 : Int) = 1) := by decide
  rw [if_neg e1, if_pos rfl]
  have e2 : decide ((0 : Int) ≤ h) = true := decide_eq_true h0
  have e3 : decide (h < (16 : Int)) = true := decide_eq_true h1
  show (decide (List.replicate 32 (0 : Int) = List.replicate 32 (0 : Int)) && decide ((0 : Int) ≤ h) && decide (h < (16 : Int))) = true
  rw [decide_eq_true rfl, e2, e3]
  rfl
theorem trOf_may (id : List Int) {h : Int} (h0 : 0 ≤ h) (h1 : h < 16) : g_may (trOf id h) = true := by
  unfold g_may
  have e : g_Is (trOf id h).2.1 = true := hostE_is h0 h1
  rw [e]
  rfl
theorem pk0_right (id : List Int) : g_packetRight (pk0 id) = true := rfl
theorem pk1_right {h : Int} (h0 : 0 ≤ h) (h1 : h < 16) : g_packetRight (pk1 h) = true := by
  unfold g_packetRight g_stackRight
  have e : g_all (pk1 h).1 = true := by
    show (g_Is (hostE h) && true) = true
    rw [hostE_is h0 h1]
    rfl
  rw [e]
  rfl
theorem one_right (id : List Int) {h : Int} (h0 : 0 ≤ h) (h1 : h < 16) : g_Right [trOf id h] = true :=
  right_iff.2 ⟨fun x hx => by rw [List.mem_singleton.1 hx]; exact trOf_may id h0 h1, List.pairwise_singleton _ _, by show 1 ≤ 32; decide⟩
theorem one_match (id : List Int) {h : Int} (h0 : 0 ≤ h) (h1 : h < 16) : g_Match [trOf id h] id = ([trOf id h], 0) := by
  rcases match_cases id (one_right id h0 h1) with ⟨_, h2⟩ | ⟨x, hx, _, _, _, h5⟩
  · have := h2 (trOf id h) (List.mem_singleton.2 rfl)
    have e : bitsC id (trOf id h) = 256 := common_same id
    omega
  · rw [List.mem_singleton.1 hx] at h5
    rw [h5, List.filter_cons, if_pos (decide_eq_true rfl)]
    rfl

theorem host_often : ∀ i : Nat, i < 16 → hostsN (setAtx tInt s0.1 (i : Int) (elI s0.1 (i : Int) + 1)) 16 = [(i : Int)] := by decide

theorem alone (id : List Int) {h : Int} (h0 : 0 ≤ h) (h1 : h < 16) : g_Deliver [trOf id h] (pk0 id) = (([h], 0, 0, 2, ()), 0, ()) := by
  have hr := one_right id h0 h1
  have e1 : (g_Step [trOf id h] (pk0 id)).1 = [g_on (pk0 id) (trOf id h) [hostE h]] := by
    unfold g_Step
    rw [if_pos ⟨pk0_right id, hr⟩, if_neg (show ¬ (firstOf (pk0 id)).1 = (2 : Int) by show ¬ (1 : Int) = 2; decide), if_neg (show ¬ ((pk0 id).2.1 : Int) = 0 by show ¬ (64 : Int) = 0; decide)]
    have em : g_Match [trOf id h] (firstOf (pk0 id)).2.1 = ([trOf id h], 0) := one_match id h0 h1
    rw [em, if_pos rfl]
    rfl
  have e2 : pushO (g_on (pk0 id) (trOf id h) [hostE h]) = [pk1 h] := by
    have e : g_Push [] [hostE h] = ([hostE h], 0) := by
      unfold g_Push
      have ea : g_all [hostE h] = true := by
        show (g_Is (hostE h) && true) = true
        rw [hostE_is h0 h1]
        rfl
      rw [if_pos ⟨rfl, ea⟩, if_pos (by show 0 + 1 ≤ 4; decide)]
      rfl
    unfold pushO
    rw [if_neg (show ¬ oKind (g_on (pk0 id) (trOf id h) [hostE h]) = 1 by show ¬ (2 : Int) = 1; decide), if_pos (show oKind (g_on (pk0 id) (trOf id h) [hostE h]) = 2 from rfl)]
    show [(((g_Push [] [hostE h]).1, hopLess 64, e00, ()) : Pk)] = [pk1 h]
    rw [e]
    rfl
  have e3 : ∀ s, bump s (g_on (pk0 id) (trOf id h) [hostE h]) = s := fun s => by
    unfold bump
    rw [if_neg (show ¬ oKind (g_on (pk0 id) (trOf id h) [hostE h]) = 1 by show ¬ (2 : Int) = 1; decide), if_pos (show oKind (g_on (pk0 id) (trOf id h) [hostE h]) = 2 from rfl)]
  have e4 : (g_Step [trOf id h] (pk1 h)).1 = [((1 : Int), h, pk1 h, zero tTrigger, (0 : Int), ())] := by
    unfold g_Step
    rw [if_pos ⟨pk1_right h0 h1, hr⟩, if_pos (show (firstOf (pk1 h)).1 = (2 : Int) from rfl)]
    rfl
  obtain ⟨i, hi⟩ : ∃ i : Nat, (i : Int) = h := ⟨Int.toNat h, Int.toNat_of_nonneg h0⟩
  have hi16 : i < 16 := by omega
  have e5 : ∀ s, bump s ((1 : Int), h, pk1 h, zero tTrigger, (0 : Int), ()) = (setAtx tInt s.1 h (elI s.1 h + 1), s.2) := fun s => by
    unfold bump
    rw [if_pos (show oKind ((1 : Int), h, pk1 h, zero tTrigger, (0 : Int), ()) = 1 from rfl)]
    rfl
  have e6 : pushO ((1 : Int), h, pk1 h, zero tTrigger, (0 : Int), ()) = [] := by
    unfold pushO
    rw [if_pos (show oKind ((1 : Int), h, pk1 h, zero tTrigger, (0 : Int), ()) = 1 from rfl)]
  have er : runD [trOf id h] 1000 s0 0 [pk0 id] = some ((setAtx tInt s0.1 h (elI s0.1 h + 1), s0.2), 2) := by
    rw [runD_step, e1, List.foldl_cons, List.foldl_nil, e3, List.flatMap_cons, List.flatMap_nil, e2]
    show runD [trOf id h] (998 + 1) s0 1 [pk1 h] = _
    rw [runD_step, e4, List.foldl_cons, List.foldl_nil, e5, List.flatMap_cons, List.flatMap_nil, e6]
    exact runD_end _ _ _ _
  unfold g_Deliver
  rw [if_pos ⟨hr, pk0_right id⟩, er]
  show ((hostsN (setAtx tInt s0.1 h (elI s0.1 h + 1)) 16, s0.2.1, s0.2.2, (2 : Int), ()), (0 : Int), ()) = _
  rw [← hi, host_often i hi16]
  rfl

/-! ### A key that nothing leads to -/

def elB (a : List Int) (n : Int) : Int := el (.int .u8) a n
def byB (a : List Int) : Prop := 0 ≤ elB a 0 ∧ elB a 0 ≤ 255

theorem cmn_bits {a b : List Int} : ∀ (k i j : Nat), i ≤ j → j < cmn a b k i → g_Bit a (j : Nat) = g_Bit b (j : Nat)
  | 0, i, j, h1, h2 => by rw [cmn] at h2; omega
  | k + 1, i, j, h1, h2 => by
    rw [cmn] at h2
    split at h2
    · rename_i hb
      by_cases e : j = i
      · rw [e]; exact hb
      · exact cmn_bits k (i + 1) j (by omega) h2
    · omega

theorem bit0 (a : List Int) (k : Nat) (hk : k < 8) : g_Bit a (k : Nat) = elB a 0 / 2 ^ (7 - k) % 2 := by
  unfold g_Bit elB
  have e1 : ((k : Nat) : Int) / 8 = 0 := by omega
  have e2 : ((k : Nat) : Int) % 8 = (k : Nat) := by omega
  have e3 : ((7 : Int) - (k : Nat)).toNat = 7 - k := by omega
  rw [e1, e2, e3]

theorem common_far {a b : List Int} (ha : byB a) (hb : byB b) (hn : ¬ elB a 0 = elB b 0) : g_Common a b ≤ 127 := by
  by_cases hc : g_Common a b ≤ 127
  · exact hc
  · exfalso
    apply hn
    have h : 128 ≤ cmn a b 256 0 := by unfold g_Common at hc; omega
    have key : ∀ k : Nat, k < 8 → elB a 0 / 2 ^ (7 - k) % 2 = elB b 0 / 2 ^ (7 - k) % 2 := fun k hk => by
      have := cmn_bits (a := a) (b := b) 256 0 k (Nat.zero_le _) (by omega)
      rwa [bit0 a k hk, bit0 b k hk] at this
    have k0 := key 0 (by omega)
    have k1 := key 1 (by omega)
    have k2 := key 2 (by omega)
    have k3 := key 3 (by omega)
    have k4 := key 4 (by omega)
    have k5 := key 5 (by omega)
    have k6 := key 6 (by omega)
    have k7 := key 7 (by omega)
    simp only [Nat.sub_zero, Nat.reduceSub, Int.reducePow] at k0 k1 k2 k3 k4 k5 k6 k7
    obtain ⟨a0, a1⟩ := ha
    obtain ⟨b0, b1⟩ := hb
    generalize elB a 0 = x at *
    generalize elB b 0 = y at *
    omega

/-- An entry that is not led to by the far one's key. -/
def EntF (f : Int) (e : Ent) : Prop := e.1 = (1 : Int) → byB e.2.1 ∧ ¬ f = elB e.2.1 0
def PkF (f : Int) (p : Pk) : Prop := ∀ e ∈ p.1, EntF f e

theorem byB_of {a : List Int} (h : a.length = 32 ∧ byt a) : byB a := by
  have hlt : 0 < a.length := by rw [h.1]; decide
  have e : elB a 0 = a[0] := el_at (e := .int .u8) (i := 0) hlt
  unfold byB
  rw [e]
  exact h.2 _ (List.getElem_mem hlt)

/-- What is put in is there, and nothing else. -/
theorem put_far {t : List Tg} {x : Tg} (hk : ∀ z ∈ t, okTr z) (hx : okTr x) (hf : ∀ z ∈ t, ¬ elB x.1 0 = elB z.1 0) (h : (g_Put t x).2 = 0) :
    ∃ A B, t = A ++ B ∧ (g_Put t x).1 = A ++ x :: B ∧ g_Right t = true ∧ g_Right (A ++ x :: B) = true ∧ (A ++ x :: B).length ≤ 32 := by
  obtain ⟨hr, hm⟩ := put_ok h
  rcases put_cases hr x hm with ⟨A, B, e, _, _, _, h4⟩ | ⟨A, y, B, e, _, h2, _, _, _⟩
  · rcases h4 with ⟨_, h6⟩ | ⟨h5, h6⟩
    · rw [h6] at h; cases h
    · obtain ⟨a, g1, g2, _⟩ := put_right hr x hm (.inl h5)
      have ea : a = A ++ x :: B := by rw [h6] at g1; exact (congrArg Prod.fst g1).symm
      rw [ea] at g2
      exact ⟨A, B, e, by rw [h6], hr, g2, (right_iff.1 g2).2.2⟩
  · exfalso
    have hy : y ∈ t := by rw [e]; simp
    have := (isIE_iff (hk y hy) hx).2 h2
    unfold isIE at this
    rw [Bool.and_eq_true, decide_eq_true_eq, decide_eq_true_eq] at this
    exact hf y hy (by rw [this.1])

theorem match_far {A B : List Tg} {x : Tg} (hr : g_Right (A ++ B) = true) (hr' : g_Right (A ++ x :: B) = true) {id : List Int} (hx : byB x.1) (hid : byB id) (hn : ¬ elB x.1 0 = elB id 0) : g_Match (A ++ x :: B) id = g_Match (A ++ B) id := by
  rw [← (match_near id hr).1, ← (match_near id hr').1]
  have e : decide (128 ≤ g_Common x.1 id) = false := decide_eq_false (by have := common_far hx hid hn; omega)
  rw [List.filter_append, List.filter_append, List.filter_cons, if_neg (by rw [e]; simp)]

theorem step_far {A B : List Tg} {x : Tg} (hr : g_Right (A ++ B) = true) (hr' : g_Right (A ++ x :: B) = true) (hx : byB x.1) {p : Pk} (hp : PkF (elB x.1 0) p) : g_Step (A ++ x :: B) p = g_Step (A ++ B) p := by
  unfold g_Step
  by_cases hc : g_packetRight p = true
  · have c1 : g_packetRight p = true ∧ g_Right (A ++ x :: B) = true := ⟨hc, hr'⟩
    have c2 : g_packetRight p = true ∧ g_Right (A ++ B) = true := ⟨hc, hr⟩
    rw [if_pos c1, if_pos c2]
    by_cases hk : (firstOf p).1 = (2 : Int)
    · rw [if_pos hk, if_pos hk]
    · have hi := first_is hc
      unfold g_Is at hi
      have h1 : (firstOf p).1 = (1 : Int) := by
        by_cases h1 : (firstOf p).1 = (1 : Int)
        · exact h1
        · rw [if_neg h1, if_neg hk] at hi; cases hi
      obtain ⟨hl, _, _⟩ := right_len hc
      have hlt : 0 < p.1.length := hl
      have hmem : firstOf p ∈ p.1 := by
        unfold firstOf
        have e : el tEntry p.1 0 = p.1[0] := el_at (e := tEntry) (i := 0) hlt
        rw [e]
        exact List.getElem_mem hlt
      obtain ⟨g1, g2⟩ := hp _ hmem h1
      rw [match_far hr hr' hx g1 g2]
  · rw [if_neg (fun h => hc h.1), if_neg (fun h => hc h.1)]

theorem push_sub {l f : List Ent} : ∀ e ∈ (g_Push l f).1, e ∈ f ∨ e ∈ l := fun e he => by
  unfold g_Push at he
  split at he
  · split at he
    · exact List.mem_append.1 he
    · cases he
  · cases he

theorem on_far {f : Int} {p : Pk} (hp : PkF f p) (y : Tg) {fr : List Ent} (hf : ∀ e ∈ fr, EntF f e) : ∀ p' ∈ pushO (g_on p y fr), PkF f p' := fun p' hp' => by
  unfold pushO at hp'
  rw [if_neg (show ¬ oKind (g_on p y fr) = 1 by show ¬ (2 : Int) = 1; decide), if_pos (show oKind (g_on p y fr) = 2 from rfl)] at hp'
  rw [List.mem_singleton.1 hp']
  intro e he
  rcases push_sub e he with h | h
  · exact hf e h
  · exact hp e (List.mem_of_mem_drop h)
theorem dead_far (w : Int) : (g_dead w).flatMap pushO = [] := rfl

theorem step_pushF {f : Int} {t : List Tg} (ht : ∀ z ∈ t, EntF f z.2.1) {p : Pk} (hp : PkF f p) : ∀ p' ∈ (g_Step t p).1.flatMap pushO, PkF f p' := by
  intro p' hp'
  by_cases h : g_packetRight p = true ∧ g_Right t = true
  · by_cases hk : (firstOf p).1 = (2 : Int)
    · have e : (g_Step t p).1 = [(1, (firstOf p).2.2.1, p, zero tTrigger, 0, ())] := by unfold g_Step; rw [if_pos h, if_pos hk]
      rw [e] at hp'
      cases hp'
    · by_cases h0 : (p.2.1 : Int) = 0
      · have e : (g_Step t p).1 = g_dead 9 := by unfold g_Step; rw [if_pos h, if_neg hk, if_pos h0]
        rw [e, dead_far] at hp'
        cases hp'
      · by_cases hm : (g_Match t (firstOf p).2.1).2 = 0
        · have e : (g_Step t p).1 = (g_Match t (firstOf p).2.1).1.map fun x => g_on p x [x.2.1] := by unfold g_Step; rw [if_pos h, if_neg hk, if_neg h0, if_pos hm]
          rw [e] at hp'
          obtain ⟨o, ho, hp'⟩ := List.mem_flatMap.1 hp'
          obtain ⟨y, hy, rfl⟩ := List.mem_map.1 ho
          have hyt : y ∈ t := by
            rcases match_cases (firstOf p).2.1 h.2 with ⟨h1, _⟩ | ⟨z, _, _, _, _, h5⟩
            · rw [h1] at hy; cases hy
            · rw [h5] at hy; exact (List.mem_filter.1 hy).1
          exact on_far hp y (fun e he => by rw [List.mem_singleton.1 he]; exact ht y hyt) p' hp'
        · by_cases h1 : 1 < p.1.length
          · have e : (g_Step t p).1 = [g_on p (zero tTrigger) []] := by unfold g_Step; rw [if_pos h, if_neg hk, if_neg h0, if_neg hm, if_pos h1]
            rw [e, List.flatMap_cons, List.flatMap_nil, List.append_nil] at hp'
            exact on_far hp (zero tTrigger) (fun e he => by cases he) p' hp'
          · have e : (g_Step t p).1 = g_dead 6 := by unfold g_Step; rw [if_pos h, if_neg hk, if_neg h0, if_neg hm, if_neg h1]
            rw [e, dead_far] at hp'
            cases hp'
  · have e : g_Step t p = ([], 1) := by unfold g_Step; rw [if_neg h]
    rw [e] at hp'
    cases hp'

theorem run_far {A B : List Tg} {x : Tg} (hr : g_Right (A ++ B) = true) (hr' : g_Right (A ++ x :: B) = true) (hx : byB x.1) (ht : ∀ z ∈ A ++ B, EntF (elB x.1 0) z.2.1) : ∀ (n : Nat) (s : Sx) (k : Nat) (q : List Pk), (∀ p ∈ q, PkF (elB x.1 0) p) → runD (A ++ x :: B) n s k q = runD (A ++ B) n s k q
  | n, s, k, [], _ => by rw [runD_end, runD_end]
  | 0, s, k, p :: q, _ => rfl
  | n + 1, s, k, p :: q, hq => by
    have hp := hq p List.mem_cons_self
    rw [runD_step, runD_step, step_far hr hr' hx hp]
    refine run_far hr hr' hx ht n _ _ _ fun p' hp' => ?_
    rcases List.mem_append.1 hp' with h | h
    · exact hq p' (List.mem_cons_of_mem _ h)
    · exact step_pushF ht hp p' h

/-- The far one adds nothing. -/
theorem far_adds {t : List Tg} {x : Tg} (hk : ∀ z ∈ t, okTr z) (hx : okTr x) (hf : ∀ z ∈ t, ¬ elB x.1 0 = elB z.1 0) (hg : ∀ z ∈ t, EntF (elB x.1 0) z.2.1) (h : (g_Put t x).2 = 0) {p : Pk} (hp : PkF (elB x.1 0) p) :
    g_Deliver (g_Put t x).1 p = g_Deliver t p := by
  obtain ⟨A, B, e, e1, hr, hr', _⟩ := put_far hk hx hf h
  rw [e1]
  subst e
  unfold g_Deliver
  rw [hr, hr', run_far hr hr' (byB_of hx.1) hg 1000 s0 0 [p] fun p' hp' => by rw [List.mem_singleton.1 hp']; exact hp]

end Go.Proofs.Ytnccacngedeoeaa

/- A trigger that is alone; one of a key that nothing leads to: the law. -/
namespace Go.Proofs.Ytnccacngedeoeaa
open Go Go.RowKit

def farB (v : Int) : Int := IntKind.wrap .u8 ((BitVec.toNat (BitVec.ofInt (IntKind.bits .u8) v ^^^ BitVec.ofInt (IntKind.bits .u8) 255) : Nat) : Int)
def farI (id : List Int) : List Int := setAtx (.int .u8) id 0 (farB (elB id 0))
theorem farB_nat : ∀ v : Nat, v < 256 → 0 ≤ farB (v : Int) ∧ farB (v : Int) ≤ 255 ∧ ¬ farB (v : Int) = (v : Int) := by decide +kernel
theorem farB_is {v : Int} (h0 : 0 ≤ v) (h1 : v ≤ 255) : 0 ≤ farB v ∧ farB v ≤ 255 ∧ ¬ farB v = v := by
  obtain ⟨n, rfl⟩ : ∃ n : Nat, v = (n : Int) := ⟨v.toNat, by omega⟩
  exact farB_nat n (by omega)
theorem far_ok {id : List Int} (h : id.length = 32 ∧ byt id) : ((farI id).length = 32 ∧ byt (farI id)) ∧ elB (farI id) 0 = farB (elB id 0) ∧ ¬ elB (farI id) 0 = elB id 0 := by
  obtain ⟨b0, b1⟩ := byB_of h
  obtain ⟨f0, f1, f2⟩ := farB_is b0 b1
  have e : elB (farI id) 0 = farB (elB id 0) := by
    have hlt : 0 < (farI id).length := by show 0 < (List.set id _ _).length; rw [List.length_set, h.1]; decide
    have e1 : elB (farI id) 0 = (farI id)[0] := el_at (e := .int .u8) (i := 0) hlt
    rw [e1]
    show (List.set id 0 (farB (elB id 0)))[0]'_ = _
    exact List.getElem_set_self ..
  refine ⟨⟨?_, fun x hx => ?_⟩, e, by rw [e]; exact f2⟩
  · show (List.set id _ _).length = 32
    rw [List.length_set]; exact h.1
  · have hx : x ∈ List.set id 0 (farB (elB id 0)) := hx
    rcases List.mem_or_eq_of_mem_set hx with h1 | h1
    · exact h.2 x h1
    · rw [h1]; exact ⟨f0, f1⟩
theorem zeros_ok : (List.replicate 32 (0 : Int)).length = 32 ∧ byt (List.replicate 32 (0 : Int)) := ⟨rfl, fun x hx => by rw [List.eq_of_mem_replicate hx]; exact ⟨by decide, by decide⟩⟩
theorem trOf_ok {id : List Int} (h : id.length = 32 ∧ byt id) (n : Int) : okTr (trOf id n) := ⟨h, zeros_ok⟩

theorem deliver_bad {t : List Tg} {p : Pk} (h : ¬ (g_Deliver t p).2.1 = (0 : Int)) : (g_Deliver t p).1 = zero tSpread := by
  unfold g_Deliver at h ⊢
  split
  · rename_i hy
    rw [if_pos hy] at h
    cases hr : runD t 1000 s0 0 [p] with
    | none => rfl
    | some x =>
      rw [hr] at h
      exact absurd rfl h
  · rfl

theorem okTrS {x : Tg} (h : okT tTrigger x) : okTr x := ⟨ok_byt h.1, ok_byt h.2.1.2.1⟩
theorem put_nil {t : List Tg} {x : Tg} (h : ¬ (g_Put t x).2 = 0) : (g_Put t x).1 = [] := by
  cases hc : (g_Right t && g_may x) with
  | false => rw [put_not hc]
  | true =>
    rw [Bool.and_eq_true] at hc
    rcases put_cases hc.1 x hc.2 with ⟨A, B, _, _, _, _, h4⟩ | ⟨A, y, B, _, _, _, _, _, h6⟩
    · rcases h4 with ⟨_, h6⟩ | ⟨_, h6⟩
      · rw [h6]
      · rw [h6] at h; exact absurd rfl h
    · rw [h6] at h; exact absurd rfl h

theorem xs_Adds : XOk prog X_l14_SpreadAdds := x_l14_SpreadAdds k_l14_few k_spread_Deliver k_l14_alive k_table_Put k_r14_Same

def gl_Adds (O : Nat → Prop) (w0 : World) (t : List Tg) (ht : t.length ≤ 1000000) (hk : ∀ z ∈ t, okTr z) (id : List Int) (hid : id.length = 32 ∧ byt id) (h : Int) (q4 o : den tSpread × Int × Unit) (hq : q4 = g_Deliver t (pk0 id)) (hq0 : q4.2.1 = (0 : Int)) (ho : o = (([h], 0, 0, 2, ()), 0, ())) :=
  PLift.up <| range_ind (σ := Unit) t.length (fun i _ => ∀ z ∈ t.take i, ¬ elB (farI id) 0 = elB z.1 0 ∧ EntF (elB (farI id) 0) z.2.1)
    (fun i _ => GoodS prog X_l14_SpreadAdds (Cx.base O w0) (Ends prog O w0 rs_l14_SpreadAdds fun y => y = (true, ())) [] fx_l14_SpreadAdds (lp f_l14_SpreadAdds 15) (E_l14_SpreadAdds_15 t h o.2.1 t (lnx tTrigger t) (i : Nat) (pk0 id) q4.1 (hostE h) o.1 (farI id)))
    (fun i _ hi hb ih => goodS_of xs_Adds (TL_l14_SpreadAdds_15_eq t h o.2.1 t _ _ (pk0 id) q4.1 (hostE h) o.1 (farI id)) (by
      have hz : inB 0 ((32 : Nat) : Int) := ⟨by decide, by decide⟩
      have e : el tTrigger t (i : Nat) = t[i] := el_at hi
      refine ⟨fun _ => ⟨inB_of hi, hz, hz, fun _ _ => hz, fun _ _ => hz, fun _ => ⟨trivial, all_eq ⟨_, rfl, rfl⟩⟩, fun hc => ?_⟩, fun h => ?_⟩
      · rw [e] at hc
        rw [wr_idx hi (by omega)]
        refine ih () fun z hz => ?_
        rw [List.take_succ_eq_append_getElem hi] at hz
        rcases List.mem_append.1 hz with h1 | h1
        · exact hb z h1
        · rw [List.mem_singleton.1 h1]
          have hc : (bif decide (elB t[i].1 0 = elB (farI id) 0) then true else bif decide (t[i].2.1.1 = (1 : Int)) then decide (elB t[i].2.1.2.1 0 = elB (farI id) 0) else false) = false := hc
          have n1 : ¬ elB t[i].1 0 = elB (farI id) 0 := fun e => by rw [decide_eq_true e] at hc; cases hc
          rw [decide_eq_false n1] at hc
          refine ⟨fun e => n1 e.symm, fun h1 => ⟨byB_of (hk _ (List.getElem_mem hi)).2, fun e => ?_⟩⟩
          rw [decide_eq_true h1, decide_eq_true e.symm] at hc
          cases hc
      · rw [lnx_nat] at h
        exact absurd hi (of_decide_eq_false h)))
    (fun _ hb => goodS_of xs_Adds (TL_l14_SpreadAdds_15_eq t h o.2.1 t _ _ (pk0 id) q4.1 (hostE h) o.1 (farI id)) (by
      rw [List.take_length] at hb
      obtain ⟨f1, f2, f3⟩ := far_ok hid
      have hx : okTr (trOf (farI id) h) := trOf_ok f1 h
      have hf : ∀ z ∈ t, ¬ elB (trOf (farI id) h).1 0 = elB z.1 0 := fun z hz => (hb z hz).1
      have hg : ∀ z ∈ t, EntF (elB (trOf (farI id) h).1 0) z.2.1 := fun z hz => (hb z hz).2
      have hp : PkF (elB (trOf (farI id) h).1 0) (pk0 id) := fun en hen => by
        rw [List.mem_singleton.1 hen]
        exact fun _ => ⟨byB_of hid, f3⟩
      have hlen : (g_Put t (trOf (farI id) h)).1.length ≤ 1000000 := by
        by_cases h0 : (g_Put t (trOf (farI id) h)).2 = 0
        · obtain ⟨A, B, _, e1, _, _, hl⟩ := put_far hk hx hf h0
          rw [e1]; omega
        · rw [put_nil h0]; exact Nat.zero_le _
      refine ⟨fun h => ?_, fun _ => ⟨ht, all_eq ⟨⟨hlen, by show 1 ≤ 1000000; decide⟩, all_eq ⟨trivial, all_eq ⟨fun _ => ?_, fun _ hc1 hc2 => ?_, _, rfl, ?_⟩⟩⟩⟩⟩
      · rw [lnx_nat] at h
        exact absurd (of_decide_eq_true h) (Nat.lt_irrefl _)
      · rw [ho]
        exact ⟨by decide, show (0 : Int) < 1 by decide⟩
      · have h0 : (g_Deliver (g_Put t (trOf (farI id) h)).1 (pk0 id)).2.1 = (0 : Int) := of_decide_eq_true hc2
        obtain ⟨_, _, s, w, _, e, hI, hw⟩ := deliver_ok h0
        show (g_Deliver (g_Put t (trOf (farI id) h)).1 (pk0 id)).1.1.length ≤ 1000000
        rw [e]
        exact hosts_le hI hw
      · have fin : (bif !decide ((g_Put t (trOf (farI id) h)).2 = 0) then true else bif decide ((g_Deliver (g_Put t (trOf (farI id) h)).1 (pk0 id)).2.1 = (0 : Int)) then g_SameS (g_Deliver (g_Put t (trOf (farI id) h)).1 (pk0 id)).1 q4.1 else false) = true := by
          by_cases h0 : (g_Put t (trOf (farI id) h)).2 = 0
          · rw [far_adds hk hx hf hg h0 hp, ← hq, decide_eq_true h0, decide_eq_true hq0, same_self]
            rfl
          · rw [decide_eq_false h0]
            rfl
        have e1 : decide ((el tInt [h] 0 : Int) = h) = true := decide_eq_true rfl
        show ((bif bif bif bif bif true then decide (o.2.1 = (0 : Int)) else false then decide (lnx tInt o.1.1 = (1 : Int)) else false then decide ((el tInt o.1.1 0 : Int) = h) else false then decide ((o.1.2.2.2.1 : Int) = 2) else false then
          (bif !decide ((g_Put t (trOf (farI id) h)).2 = 0) then true else bif decide ((g_Deliver (g_Put t (trOf (farI id) h)).1 (pk0 id)).2.1 = (0 : Int)) then g_SameS (g_Deliver (g_Put t (trOf (farI id) h)).1 (pk0 id)).1 q4.1 else false) else false), ()) = (true, ())
        rw [fin, ho]
        show ((bif bif bif true then decide ((el tInt [h] 0 : Int) = h) else false then true else false then true else false), ()) = (true, ())
        rw [e1]
        rfl))

theorem host_in (n : Int) : 0 ≤ Int.tmod (IntKind.wrap .i64 (Int.tmod n 16 + 16)) 16 ∧ Int.tmod (IntKind.wrap .i64 (Int.tmod n 16 + 16)) 16 < 16 := by
  have h1 : -16 < Int.tmod n 16 ∧ Int.tmod n 16 < 16 := ⟨by have := Int.lt_tmod_of_pos n (show (0 : Int) < 16 by decide); omega, Int.tmod_lt_of_pos n (by decide)⟩
  rw [small_i64 (by omega), Int.tmod_eq_emod_of_nonneg (by omega)]
  omega

theorem k_l14_SpreadAdds : FnOk prog [] n_l14_SpreadAdds (lawS as_l14_SpreadAdds) :=
  fnS_T (S := lawS as_l14_SpreadAdds) xs_Adds (fx := fx_l14_SpreadAdds) at_l14_SpreadAdds (by kernel_rfl) (fun _ _ => trivial) (T := fun x => T_l14_SpreadAdds x.1 x.2.1 x.2.2.1) (fun x => T_l14_SpreadAdds_eq x.1 x.2.1 x.2.2.1) fun O w0 x hk _ => by
    obtain ⟨t0, id, host, ⟨⟩⟩ := x
    have hkt : ∀ z ∈ g_few t0, okTr z := fun z hz => okTrS (hk.1.2 z (List.mem_of_mem_take hz))
    have hid : id.length = 32 ∧ byt id := ok_byt hk.2.1
    clear hk
    show TreeGoodS _ _ _ _ _ (T_l14_SpreadAdds t0 id host)
    unfold T_l14_SpreadAdds
    have ht : (g_few t0).length ≤ 1000000 := by unfold g_few; rw [List.length_take]; omega
    obtain ⟨h0, h1⟩ := host_in host
    generalize g_few t0 = t at ht hkt
    generalize Int.tmod (IntKind.wrap .i64 (Int.tmod host 16 + 16)) 16 = h at h0 h1
    have hz : inB 0 ((32 : Nat) : Int) := ⟨by decide, by decide⟩
    refine ⟨trivial, all_eq ⟨show (16 : Int) ≠ 0 by decide, show (16 : Int) ≠ 0 by decide, ⟨ht, by show 1 ≤ 1000000; decide⟩, all_eq ⟨fun hn => ⟨trivial, all_eq ⟨_, rfl, ?_⟩⟩, fun hn => ⟨ht, all_eq ⟨fun _ => ⟨trivial, all_eq ⟨_, rfl, rfl⟩⟩, fun _ => ⟨⟨by show 1 ≤ 1000000; decide, by show 1 ≤ 1000000; decide⟩, all_eq ⟨hz, hz, ?_⟩⟩⟩⟩⟩⟩⟩
    · have hn : (!decide ((g_Deliver t (pk0 id)).2.1 = (0 : Int))) = true := hn
      have hb := deliver_bad (t := t) (p := pk0 id) fun e => by rw [decide_eq_true e] at hn; cases hn
      show ((bif true then decide (((g_Deliver t (pk0 id)).1.2.2.2.1 : Int) = 0) else false), ()) = (true, ())
      rw [hb]
      rfl
    · have hn : (!decide ((g_Deliver t (pk0 id)).2.1 = (0 : Int))) = false := hn
      have hq0 : (g_Deliver t (pk0 id)).2.1 = (0 : Int) := by
        by_cases e : (g_Deliver t (pk0 id)).2.1 = (0 : Int)
        · exact e
        · rw [decide_eq_false e] at hn; cases hn
      exact (gl_Adds O w0 t ht hkt id hid h (g_Deliver t (pk0 id)) (g_Deliver [trOf id h] (pk0 id)) rfl hq0 (alone id h0 h1)).down 0 () (Nat.zero_le _) (fun z hz => by cases hz)

end Go.Proofs.Ytnccacngedeoeaa
