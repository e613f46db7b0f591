/- Part 8 of 8 of what this claim's proof stands on: a theory of programs on data, and the contracts of the functions that the law reaches. It holds no condition of its own. -/
import Derived.Test.YtnccacngedeoeaaCS7

/- The trees of functions' bodies, as the evaluator prints them. -/
namespace Go.Proofs.Ytnccacngedeoeaa
open Go Go.RowKit

noncomputable abbrev fx_l14_alive : Fx := { fn := f_l14_alive, ann := { }, share := true }
noncomputable abbrev X_l14_alive : TabX := { D := { T := tyTab, F := [(n_spread_Deliver, S_spread_Deliver)], R := [], ovl := [] }, inl := [] }
noncomputable abbrev M_l14_alive : RMode := .data rs_l14_alive
theorem x_l14_alive (h_spread_Deliver : FnOk prog [] n_spread_Deliver S_spread_Deliver) : XOk prog X_l14_alive := xok (dok_add (dok_nil tab_ok mixed_ok) h_spread_Deliver) (by kernel_rfl) rows_nil inl_nil ovl_nil
noncomputable def T_l14_alive : TreeS :=
  TreeS.req
  ((0 : Nat) ≤ 1000000 ∧
    List.length
        (List.set (List.replicate 1 (zero tEntry)) 0
          (2, Prod.fst (Prod.snd (zero (Ty.pair tInt (Ty.pair tId (Ty.pair tInt Ty.unit))))), 3,
            Prod.snd (Prod.snd (Prod.snd (zero (Ty.pair tInt (Ty.pair tId (Ty.pair tInt Ty.unit)))))))) ≤
      1000000)
  (TreeS.all (den (Ty.pair tSpread (Ty.pair tInt Ty.unit)))
    (fun (q0 : den (Ty.pair tSpread (Ty.pair tInt Ty.unit))) ↦
      q0 =
        g_Deliver []
          (List.set (List.replicate 1 (zero tEntry)) 0
              (2, Prod.fst (Prod.snd (zero (Ty.pair tInt (Ty.pair tId (Ty.pair tInt Ty.unit))))), 3,
                Prod.snd (Prod.snd (Prod.snd (zero (Ty.pair tInt (Ty.pair tId (Ty.pair tInt Ty.unit))))))),
            Prod.snd (zero (Ty.pair (Ty.slc tEntry) (Ty.pair tInt (Ty.pair Ty.str Ty.unit))))))
    fun (q0 : den (Ty.pair tSpread (Ty.pair tInt Ty.unit))) ↦
    TreeS.req
      (impl
        [(bif decide (Prod.fst (Prod.snd q0) = 0) then decide (lnx tInt (Prod.fst (Prod.fst q0)) = 1) else false, true)]
        (inB 0 (lnx tInt (Prod.fst (Prod.fst q0)))))
      (TreeS.ret
        (K.val (Ty.pair Ty.bool Ty.unit)
          (bif
                bif
                    bif decide (Prod.fst (Prod.snd q0) = 0) then decide (lnx tInt (Prod.fst (Prod.fst q0)) = 1)
                    else false then
                  decide (el tInt (Prod.fst (Prod.fst q0)) 0 = 3)
                else false then
              decide (Prod.fst (Prod.snd (Prod.snd (Prod.snd (Prod.fst q0)))) = 1)
            else false,
            PUnit.unit))))
theorem T_l14_alive_eq : treeS X_l14_alive M_l14_alive 5000 [] fx_l14_alive (bodyOf f_l14_alive) (Env.of
  (argEnv as_l14_alive () 0) []) = T_l14_alive := by kernel_rfl

noncomputable abbrev fx_l14_SpreadParts : Fx := { fn := f_l14_SpreadParts, ann := { }, share := true }
noncomputable abbrev X_l14_SpreadParts : TabX := { D := { T := tyTab, F := [(n_l14_few, S_l14_few), (n_l14_cut, S_l14_cut), (n_spread_Deliver, S_spread_Deliver), (n_l14_alive, S_l14_alive), (n_table_Match, S_table_Match), (n_r14_Same, S_r14_Same)], R := [], ovl := [] }, inl := [] }
noncomputable abbrev M_l14_SpreadParts : RMode := .data rs_l14_SpreadParts
theorem x_l14_SpreadParts (h_l14_few : FnOk prog [] n_l14_few S_l14_few) (h_l14_cut : FnOk prog [] n_l14_cut S_l14_cut) (h_spread_Deliver : FnOk prog [] n_spread_Deliver S_spread_Deliver) (h_l14_alive : FnOk prog [] n_l14_alive S_l14_alive) (h_table_Match : FnOk prog [] n_table_Match S_table_Match) (h_r14_Same : FnOk prog [] n_r14_Same S_r14_Same) : XOk prog X_l14_SpreadParts := xok (dok_add (dok_add (dok_add (dok_add (dok_add (dok_add (dok_nil tab_ok mixed_ok) h_r14_Same) h_table_Match) h_l14_alive) h_spread_Deliver) h_l14_cut) h_l14_few) (by kernel_rfl) rows_nil inl_nil ovl_nil
noncomputable def T_l14_SpreadParts (t : den (Ty.slc tTrigger)) (p : den tPacket) : TreeS :=
  TreeS.req True
  (TreeS.req True
    (TreeS.all (den (Ty.slc tTrigger)) (fun (q2 : den (Ty.slc tTrigger)) ↦ q2 = g_few t)
      fun (q2 : den (Ty.slc tTrigger)) ↦
      TreeS.all (den tPacket) (fun (q3 : den tPacket) ↦ q3 = g_cut p) fun (q3 : den tPacket) ↦
        TreeS.req (List.length (g_few t) ≤ 1000000 ∧ List.length (Prod.fst (g_cut p)) ≤ 1000000)
          (TreeS.all (den (Ty.pair tSpread (Ty.pair tInt Ty.unit)))
            (fun (q4 : den (Ty.pair tSpread (Ty.pair tInt Ty.unit))) ↦ q4 = g_Deliver (g_few t) (g_cut p))
            fun (q4 : den (Ty.pair tSpread (Ty.pair tInt Ty.unit))) ↦
            TreeS.req
              (impl
                [(bif
                        bif !decide (Prod.fst (Prod.snd q4) = 0) then true
                        else decide (Prod.fst (Prod.snd (g_cut p)) = 0) then
                      true
                    else decide (lnx tEntry (Prod.fst (g_cut p)) < 2),
                    false)]
                (inB 0 (lnx tEntry (Prod.fst (g_cut p)))))
              (TreeS.ite
                (bif
                    bif
                        bif !decide (Prod.fst (Prod.snd q4) = 0) then true
                        else decide (Prod.fst (Prod.snd (g_cut p)) = 0) then
                      true
                    else decide (lnx tEntry (Prod.fst (g_cut p)) < 2) then
                  true
                else !decide (Prod.fst (el tEntry (Prod.fst (g_cut p)) 0) = 1))
                (TreeS.req True
                  (TreeS.all (den Ty.bool) (fun (q5 : den Ty.bool) ↦ q5 = true) fun (q5 : den Ty.bool) ↦
                    TreeS.ret (K.val (Ty.pair Ty.bool Ty.unit) (q5, PUnit.unit))))
                (TreeS.req (inB 0 (lnx tEntry (Prod.fst (g_cut p))))
                  (TreeS.req (List.length (g_few t) ≤ 1000000)
                    (TreeS.all (den (Ty.pair (Ty.slc tTrigger) (Ty.pair tInt Ty.unit)))
                      (fun (q5 : den (Ty.pair (Ty.slc tTrigger) (Ty.pair tInt Ty.unit))) ↦
                        q5 =
                          (Prod.fst (g_Match (g_few t) (Prod.fst (Prod.snd (el tEntry (Prod.fst (g_cut p)) 0)))),
                            Prod.snd (g_Match (g_few t) (Prod.fst (Prod.snd (el tEntry (Prod.fst (g_cut p)) 0)))),
                            PUnit.unit))
                      fun (q5 : den (Ty.pair (Ty.slc tTrigger) (Ty.pair tInt Ty.unit))) ↦
                      TreeS.ite (!decide (Prod.fst (Prod.snd q5) = 6))
                        (TreeS.req True
                          (TreeS.all (den Ty.bool) (fun (q6 : den Ty.bool) ↦ q6 = true) fun (q6 : den Ty.bool) ↦
                            TreeS.ret (K.val (Ty.pair Ty.bool Ty.unit) (q6, PUnit.unit))))
                        (TreeS.req (cutOk 1 (lnx tEntry (Prod.fst (g_cut p))) (lnx tEntry (Prod.fst (g_cut p))))
                          (TreeS.req
                            (List.length (g_few t) ≤ 1000000 ∧
                              List.length (lCutx tEntry (Prod.fst (g_cut p)) 1 (lnx tEntry (Prod.fst (g_cut p)))) ≤
                                1000000)
                            (TreeS.all (den (Ty.pair tSpread (Ty.pair tInt Ty.unit)))
                              (fun (q6 : den (Ty.pair tSpread (Ty.pair tInt Ty.unit))) ↦
                                q6 =
                                  g_Deliver (g_few t)
                                    (lCutx tEntry (Prod.fst (g_cut p)) 1 (lnx tEntry (Prod.fst (g_cut p))),
                                      IntKind.wrap IntKind.i64 (Prod.fst (Prod.snd (g_cut p)) - 1),
                                      Prod.snd (Prod.snd (g_cut p))))
                              fun (q6 : den (Ty.pair tSpread (Ty.pair tInt Ty.unit))) ↦
                              TreeS.req True
                                (TreeS.all (den Ty.bool) (fun (q7 : den Ty.bool) ↦ q7 = true) fun (q7 : den Ty.bool) ↦
                                  TreeS.req
                                    (impl [(bif q7 then decide (Prod.fst (Prod.snd q6) = 0) else false, true)]
                                      (List.length (Prod.fst (Prod.fst q4)) ≤ 1000000))
                                    (TreeS.ret
                                      (K.val (Ty.pair Ty.bool Ty.unit)
                                        (bif bif q7 then decide (Prod.fst (Prod.snd q6) = 0) else false then
                                            g_SameS (Prod.fst q4)
                                              (Prod.fst (Prod.fst q6), Prod.fst (Prod.snd (Prod.fst q6)),
                                                Prod.fst (Prod.snd (Prod.snd (Prod.fst q6))),
                                                IntKind.wrap IntKind.i64
                                                  (Prod.fst (Prod.snd (Prod.snd (Prod.snd (Prod.fst q6)))) + 1),
                                                Prod.snd (Prod.snd (Prod.snd (Prod.snd (Prod.fst q6)))))
                                          else false,
                                          PUnit.unit))))))))))))))
theorem T_l14_SpreadParts_eq (t : den (Ty.slc tTrigger)) (p : den tPacket) : treeS X_l14_SpreadParts M_l14_SpreadParts 5000 [] fx_l14_SpreadParts (bodyOf f_l14_SpreadParts) (Env.of
  (argEnv as_l14_SpreadParts (t, p, ()) 0) []) = T_l14_SpreadParts t p := by kernel_rfl

end Go.Proofs.Ytnccacngedeoeaa

/- A packet comes where it does without an entry that matches nothing: the law. -/
namespace Go.Proofs.Ytnccacngedeoeaa
open Go Go.RowKit

def alivePk : Pk := ([((2 : Int), List.replicate 32 (0 : Int), (3 : Int), ())], (0 : Int), { data := { toList := [] } }, ())
theorem alive_is : g_Deliver [] alivePk = (([3], 0, 0, 1, ()), 0, ()) := by kernel_rfl
theorem k_l14_alive : FnOk prog [] n_l14_alive S_l14_alive :=
  fnS_T (S := S_l14_alive) (x_l14_alive k_spread_Deliver) (fx := fx_l14_alive) at_l14_alive (by kernel_rfl) (fun _ _ => trivial) (T := fun _ => T_l14_alive) (fun _ => T_l14_alive_eq) fun O w0 x _ _ => by
    refine ⟨⟨Nat.zero_le _, by show 1 ≤ 1000000; decide⟩, fun q hq => ?_⟩
    have hq : q = g_Deliver [] alivePk := hq
    rw [alive_is] at hq
    subst hq
    exact ⟨fun _ => ⟨by decide, by decide⟩, _, rfl, rfl⟩

theorem runD_shift (t : List Tg) : ∀ (n k : Nat) (s : Sx) (q : List Pk) (s' : Sx) (w : Nat), runD t n s (k + 1) q = some (s', w) → ∃ w', w = w' + 1 ∧ ∀ m, n ≤ m → runD t m s k q = some (s', w')
  | n, k, s, [], s', w, h => by
    have h : some (s, k + 1) = some (s', w) := by cases n <;> exact h
    have h := Option.some.inj h
    injection h with h1 h2
    subst h1; subst h2
    exact ⟨k, rfl, fun m _ => by cases m <;> rfl⟩
  | 0, k, s, p :: q, s', w, h => by cases h
  | n + 1, k, s, p :: q, s', w, h => by
    obtain ⟨w', e, hm⟩ := runD_shift t n (k + 1) _ _ s' w h
    refine ⟨w', e, fun m hnm => ?_⟩
    cases m with
    | zero => omega
    | succ m => exact hm m (by omega)

theorem runD_inv (t : List Tg) : ∀ (n k : Nat) (s : Sx) (q : List Pk) (s' : Sx) (w : Nat), runD t n s k q = some (s', w) → InvS (32 * k) s → InvS (32 * w) s' ∧ w ≤ n + k
  | n, k, s, [], s', w, h, hs => by
    have h : some (s, k) = some (s', w) := by cases n <;> exact h
    have h := Option.some.inj h
    injection h with h1 h2
    subst h1; subst h2
    exact ⟨hs, by omega⟩
  | 0, k, s, p :: q, s', w, h, hs => by cases h
  | n + 1, k, s, p :: q, s', w, h, hs => by
    obtain ⟨h32, hok⟩ := step_ok t p
    obtain ⟨h1, h2⟩ := runD_inv t n (k + 1) _ _ s' w h ((inv_fold hs hok).mono (by omega))
    exact ⟨h1, by omega⟩

theorem deliver_ok {t : List Tg} {p : Pk} (h : (g_Deliver t p).2.1 = (0 : Int)) : g_Right t = true ∧ g_packetRight p = true ∧ ∃ (s : Sx) (w : Nat), runD t 1000 s0 0 [p] = some (s, w) ∧ g_Deliver t p = ((hostsN s.1 16, s.2.1, s.2.2, (w : Int), ()), 0, ()) ∧ InvS (32 * w) s ∧ w ≤ 1000 := by
  by_cases hy : g_Right t = true ∧ g_packetRight p = true
  · have e : g_Deliver t p = finD (runD t 1000 s0 0 [p]) := by unfold g_Deliver; rw [if_pos hy]
    rw [e] at h ⊢
    cases hr : runD t 1000 s0 0 [p] with
    | none =>
      rw [hr] at h
      exact absurd (show (8 : Int) = 0 from h) (by decide)
    | some x =>
      obtain ⟨s, w⟩ := x
      obtain ⟨h1, h2⟩ := runD_inv t 1000 0 s0 [p] s w hr inv_s0
      exact ⟨hy.1, hy.2, s, w, rfl, rfl, h1, by omega⟩
  · have e : g_Deliver t p = (zero tSpread, 1, ()) := by unfold g_Deliver; rw [if_neg hy]
    rw [e] at h
    exact absurd (show (1 : Int) = 0 from h) (by decide)

theorem hosts_le {s : Sx} {w : Nat} (h : InvS (32 * w) s) (hw : w ≤ 1000) : (hostsN s.1 16).length ≤ 1000000 := by
  have := hostsN_len h.2.1 16 (Nat.le_refl _)
  omega

/-- A packet without its first entry, of one hop less. -/
def lessP (p : Pk) : Pk := (List.drop 1 p.1, hopLess p.2.1, p.2.2)

theorem all_drop {l : List Ent} (h : g_all l = true) (n : Nat) : g_all (l.drop n) = true := by
  unfold g_all at h ⊢
  rw [List.all_eq_true] at h ⊢
  exact fun x hx => h x (List.mem_of_mem_drop hx)

theorem pright_is {p : Pk} (h : g_packetRight p = true) : 0 ≤ (p.2.1 : Int) ∧ (p.2.1 : Int) ≤ 64 ∧ ByteArray.size p.2.2.1 ≤ 64 := by
  unfold g_packetRight at h
  simp only [Bool.and_eq_true, decide_eq_true_eq] at h
  exact ⟨h.1.1.2, h.1.2, h.2⟩

theorem hop_is {n : Int} (h0 : 0 ≤ n) (h1 : n ≤ 64) : hopLess n = n - 1 := small_i64 (by omega)
theorem hop_in {n : Int} (h0 : 0 ≤ n) (h1 : n ≤ 64) (hz : ¬ n = 0) : decide ((0 : Int) ≤ hopLess n) = true ∧ decide (hopLess n ≤ (64 : Int)) = true := by
  rw [hop_is h0 h1]
  exact ⟨decide_eq_true (by omega), decide_eq_true (by omega)⟩

theorem less_right {p : Pk} (h : g_packetRight p = true) (hl : 2 ≤ p.1.length) (h0 : ¬ (p.2.1 : Int) = 0) : g_packetRight (lessP p) = true := by
  obtain ⟨_, h4, ha⟩ := right_len h
  obtain ⟨hh0, hh1, hd⟩ := pright_is h
  obtain ⟨e1, e2⟩ := hop_in hh0 hh1 h0
  unfold g_packetRight g_stackRight lessP
  rw [decide_eq_true (show 1 ≤ (List.drop 1 p.1).length by rw [List.length_drop]; omega), decide_eq_true (show (List.drop 1 p.1).length ≤ 4 by rw [List.length_drop]; omega), all_drop ha 1]
  have e3 : decide (ByteArray.size p.2.2.1 ≤ 64) = true := decide_eq_true hd
  show (true && true && true && decide ((0 : Int) ≤ hopLess p.2.1) && decide (hopLess p.2.1 ≤ (64 : Int)) && decide (ByteArray.size p.2.2.1 ≤ 64)) = true
  rw [e1, e2, e3]
  rfl

theorem step_less {t : List Tg} {p : Pk} (ht : g_Right t = true) (hp : g_packetRight p = true) (hl : 2 ≤ p.1.length) (h0 : ¬ (p.2.1 : Int) = 0) (hk : (firstOf p).1 = (1 : Int)) (hm : (g_Match t (firstOf p).2.1).2 = 6) :
    (g_Step t p).1 = [g_on p (zero tTrigger) []] ∧ pushO (g_on p (zero tTrigger) []) = [lessP p] ∧ ∀ s, bump s (g_on p (zero tTrigger) []) = s := by
  obtain ⟨_, h4, ha⟩ := right_len hp
  have e : g_Push (List.drop 1 p.1) [] = (List.drop 1 p.1, 0) := by
    unfold g_Push
    rw [if_pos ⟨all_drop ha 1, rfl⟩, if_pos (by rw [List.length_drop]; show p.1.length - 1 + 0 ≤ 4; omega)]
    rfl
  have hk2 : ¬ (firstOf p).1 = (2 : Int) := by rw [hk]; decide
  have hm0 : ¬ (g_Match t (firstOf p).2.1).2 = 0 := by rw [hm]; decide
  refine ⟨by unfold g_Step; rw [if_pos ⟨hp, ht⟩, if_neg hk2, if_neg h0, if_neg hm0, if_pos (by omega)], ?_, fun s => ?_⟩
  · unfold pushO
    rw [if_neg (by show ¬ (2 : Int) = 1; decide), if_pos (show oKind (g_on p (zero tTrigger) []) = 2 from rfl)]
    show [((g_Push (List.drop 1 p.1) []).1, hopLess p.2.1, p.2.2.1, ())] = [lessP p]
    rw [e]
    rfl
  · unfold bump
    rw [if_neg (by show ¬ (2 : Int) = 1; decide), if_pos (show oKind (g_on p (zero tTrigger) []) = 2 from rfl)]

theorem parts {t : List Tg} {p : Pk} (h : (g_Deliver t p).2.1 = (0 : Int)) (hl : 2 ≤ p.1.length) (h0 : ¬ (p.2.1 : Int) = 0) (hk : (firstOf p).1 = (1 : Int)) (hm : (g_Match t (firstOf p).2.1).2 = 6) :
    ∃ (s : Sx) (w : Nat), g_Deliver t p = ((hostsN s.1 16, s.2.1, s.2.2, ((w + 1 : Nat) : Int), ()), 0, ()) ∧ g_Deliver t (lessP p) = ((hostsN s.1 16, s.2.1, s.2.2, (w : Int), ()), 0, ()) ∧ (hostsN s.1 16).length ≤ 1000000 ∧ w ≤ 1000 := by
  obtain ⟨ht, hp, s, w, hr, e, hI, hw⟩ := deliver_ok h
  obtain ⟨e1, e2, e3⟩ := step_less ht hp hl h0 hk hm
  have hr : runD t 999 ((g_Step t p).1.foldl bump s0) 1 ([] ++ (g_Step t p).1.flatMap pushO) = some (s, w) := hr
  rw [e1, List.foldl_cons, List.foldl_nil, e3, List.flatMap_cons, List.flatMap_nil, e2] at hr
  obtain ⟨w', ew, hm⟩ := runD_shift t 999 0 s0 [lessP p] s w hr
  subst ew
  refine ⟨s, w', e, ?_, hosts_le hI hw, by omega⟩
  unfold g_Deliver
  rw [if_pos ⟨ht, less_right hp hl h0⟩, hm 1000 (by decide)]
  rfl

theorem same_self (a : Sp) : g_SameS a a = true := by
  unfold g_SameS
  rw [decide_eq_true rfl, decide_eq_true rfl, decide_eq_true rfl, decide_eq_true rfl]
  rfl

theorem k_l14_SpreadParts : FnOk prog [] n_l14_SpreadParts (lawS as_l14_SpreadParts) :=
  fnS_T (S := lawS as_l14_SpreadParts) (x_l14_SpreadParts k_l14_few k_l14_cut k_spread_Deliver k_l14_alive k_table_Match k_r14_Same) (fx := fx_l14_SpreadParts) at_l14_SpreadParts (by kernel_rfl) (fun _ _ => trivial) (T := fun x => T_l14_SpreadParts x.1 x.2.1) (fun x => T_l14_SpreadParts_eq x.1 x.2.1) fun O w0 x _ _ => by
    obtain ⟨t0, p0, ⟨⟩⟩ := x
    show TreeGoodS _ _ _ _ _ (T_l14_SpreadParts t0 p0)
    unfold T_l14_SpreadParts
    have ht : (g_few t0).length ≤ 1000000 := by unfold g_few; rw [List.length_take]; omega
    have hp : (g_cut p0).1.length ≤ 1000000 := by show (List.take 6 p0.1).length ≤ _; rw [List.length_take]; omega
    generalize g_few t0 = t at ht
    generalize g_cut p0 = p at hp
    refine ⟨trivial, trivial, all_eq <| all_eq ⟨⟨ht, hp⟩, all_eq ?_⟩⟩
    have hc : ∀ a b c : Bool, (bif bif bif !a then true else b then true else c then true else false) = (!a || b || c) := fun a b c => by cases a <;> cases b <;> cases c <;> rfl
    by_cases hA : (g_Deliver t p).2.1 = (0 : Int) ∧ ¬ (p.2.1 : Int) = 0 ∧ 2 ≤ p.1.length
    · obtain ⟨hA1, hA2, hA3⟩ := hA
      have d1 : decide ((g_Deliver t p).2.1 = (0 : Int)) = true := decide_eq_true hA1
      have d2 : decide ((p.2.1 : Int) = 0) = false := decide_eq_false hA2
      have d3 : decide (lnx tEntry p.1 < (2 : Int)) = false := decide_eq_false (by rw [lnx_is]; omega)
      have hin : inB 0 (lnx tEntry p.1) := ⟨by decide, by rw [lnx_is]; omega⟩
      refine ⟨fun _ => hin, fun _ => ⟨trivial, all_eq ⟨_, rfl, rfl⟩⟩, fun hk => ?_⟩
      have hk : (bif bif bif bif !decide ((g_Deliver t p).2.1 = (0 : Int)) then true else decide ((p.2.1 : Int) = 0) then true else decide (lnx tEntry p.1 < (2 : Int)) then true else !decide ((firstOf p).1 = (1 : Int)) then true else false) = false := by
        revert hk
        cases hb : (bif bif bif !decide ((g_Deliver t p).2.1 = (0 : Int)) then true else decide ((p.2.1 : Int) = 0) then true else decide (lnx tEntry p.1 < (2 : Int)) then true else !decide ((firstOf p).1 = (1 : Int))) <;> intro hk
        · rfl
        · exact absurd (hb.symm.trans hk) (by decide)
      rw [d1, d2, d3] at hk
      have hk1 : (firstOf p).1 = (1 : Int) := by
        by_cases e : (firstOf p).1 = (1 : Int)
        · exact e
        · rw [decide_eq_false e] at hk; cases hk
      refine ⟨hin, ht, all_eq ⟨fun _ => ⟨trivial, all_eq ⟨_, rfl, rfl⟩⟩, fun h6 => ?_⟩⟩
      have h6 : (!decide ((g_Match t (firstOf p).2.1).2 = 6)) = false := h6
      have hm : (g_Match t (firstOf p).2.1).2 = 6 := by
        by_cases e : (g_Match t (firstOf p).2.1).2 = 6
        · exact e
        · rw [decide_eq_false e] at h6; cases h6
      obtain ⟨s, w, e1, e2, hle, hw⟩ := parts hA1 hA3 hA2 hk1 hm
      have eless : ((lCutx tEntry p.1 1 (lnx tEntry p.1), IntKind.wrap IntKind.i64 (p.2.1 - 1), p.2.2) : Pk) = lessP p := by
        rw [drop_one]
        rfl
      refine ⟨⟨by decide, by rw [lnx_is]; omega, Int.le_refl _⟩, ⟨ht, by rw [drop_one, List.length_drop]; omega⟩, ?_⟩
      rw [eless, e2, e1]
      refine all_eq ⟨trivial, all_eq ⟨fun _ => hle, _, rfl, ?_⟩⟩
      have ew : IntKind.wrap .i64 ((w : Int) + 1) = ((w + 1 : Nat) : Int) := wr_idx (m := 100000) (by omega) (by omega)
      show (bif bif true then decide ((0 : Int) = 0) else false then g_SameS (hostsN s.1 16, s.2.1, s.2.2, ((w + 1 : Nat) : Int), ()) (hostsN s.1 16, s.2.1, s.2.2, IntKind.wrap .i64 ((w : Int) + 1), ()) else false, ()) = (true, ())
      rw [ew, same_self]
      rfl
    · have hOr : (bif bif !decide ((g_Deliver t p).2.1 = (0 : Int)) then true else decide ((p.2.1 : Int) = 0) then true else decide (lnx tEntry p.1 < (2 : Int))) = true := by
        by_cases h1 : (g_Deliver t p).2.1 = (0 : Int)
        · by_cases h2 : (p.2.1 : Int) = 0
          · rw [decide_eq_true h1, decide_eq_true h2]; rfl
          · have h3 : lnx tEntry p.1 < (2 : Int) := by
              rw [lnx_is]
              have : ¬ 2 ≤ p.1.length := fun h => hA ⟨h1, h2, h⟩
              omega
            rw [decide_eq_true h3]
            cases (bif !decide ((g_Deliver t p).2.1 = (0 : Int)) then true else decide ((p.2.1 : Int) = 0)) <;> rfl
        · rw [decide_eq_false h1]; rfl
      refine ⟨fun h => absurd (hOr.symm.trans h) (by decide), fun _ => ⟨trivial, all_eq ⟨_, rfl, rfl⟩⟩, fun h => ?_⟩
      exfalso
      have h : (bif bif bif !decide ((g_Deliver t p).2.1 = (0 : Int)) then true else decide ((p.2.1 : Int) = 0) then true else decide (lnx tEntry p.1 < (2 : Int)) then true else !decide ((firstOf p).1 = (1 : Int))) = false := h
      rw [hOr] at h
      cases h

end Go.Proofs.Ytnccacngedeoeaa
