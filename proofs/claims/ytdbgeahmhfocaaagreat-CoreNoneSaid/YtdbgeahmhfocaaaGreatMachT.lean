/- Threads that take turns: one turn. -/
import Derived.Test.YtdbgeahmhfocaaaGreatMach
namespace Go.Proofs.YtdbgeahmhfocaaaGreat
set_option linter.unusedSimpArgs false
set_option linter.unusedVariables false
set_option maxRecDepth 100000
open Go Go.RowKit
section
variable {B : World} {σ τ : St} {K : Value → St → Prop}
/-- 'append' of one element to a slice that the frame owns; all else is as it was. -/
theorem appE {P : Program} {s : St} {d : Option Tmp} {K : Fr → St → Prop} {e : Fr} {t xt el : TypeId} {sz bts n c : Nat} {z w : Value} {cs ys : List Value} (hwf : s.wf B) (hw : Own s el sz cs n w) (ht : se P t = some (el, sz, bts)) (hxt : kd P xt = .slice) (hz : zr P el = some z) (hzs : z.cells.size = sz) (hb0 : bts ≠ 0)
    {ty : TypeId} (hyl : ys.length = sz) (hy1 : ys.all Value.oneCell' = true) (hroom : (2 * (n + 1) + 768) * bts ≤ 2 ^ 48)
    (hK : ∀ A C σ', n + 1 ≤ C → Own σ' el sz (cs ++ ys) (n + 1) (.slice A (n + 1) C) → (∀ c, c < s.n → blk w ≠ some c → σ'.m c = s.m c) → (∀ b, blk (.slice A (n + 1) C) = some b → s.n ≤ b ∨ blk w = some b) → s.n ≤ σ'.n → σ'.wf B → K (e.put d (.slice A (n + 1) C)) σ') :
    appK P B t xt w (.slice (some ⟨s.n, 0, none⟩) 1 c) d K e ((s.set s.n (.raw (.cells ys.toArray ty (0, 0)))).up (s.n + 1)) := by
  have keep : ∀ c x, s.m c = some x → ((s.set s.n (.raw (.cells ys.toArray ty (0, 0)))).up (s.n + 1)).m c = some x := fun c x hc => by
    have := (hwf.2 c _ hc).2
    simp only [St.up_m]
    rw [St.set_m_ne _ _ (by omega)]; exact hc
  refine appK_one2 ht hxt hz hzs hb0 (hw.keepR fun b o _ hb => keep b _ hb) (ty := ty) (fz := (0, 0)) (by simp) hyl hy1 hroom fun v' σ' h1 h2 h3 h4 => ?_
  obtain ⟨A, C, rfl, hC⟩ := h1.is
  simp only [St.up_n] at h2 h4
  have hb : ∀ b, blk (.slice A (n + 1) C) = some b → s.n ≤ b ∨ blk w = some b := fun b hb => (h2 b hb).imp (fun h => by omega) id
  refine hK A C σ' hC h1 (fun c hc hw' => ?_) hb (by omega) ⟨by have := hwf.1; omega, fun c x hc => ?_⟩
  · rw [h3 c fun e => (hb c e).elim (by omega) hw']
    simp only [St.up_m]
    rw [St.set_m_ne _ _ (by omega)]
  · have hB := hwf.1
    by_cases e1 : blk (.slice A (n + 1) C) = some c
    · rcases h2 c e1 with ⟨e2, e3⟩ | e2
      · omega
      · obtain ⟨o, ho⟩ := hw.at_ e2
        have := hwf.2 _ _ ho; omega
    · rw [h3 c e1] at hc
      simp only [St.up_m] at hc
      by_cases e2 : c = s.n
      · omega
      · rw [St.set_m_ne _ _ e2] at hc
        have := hwf.2 _ _ hc; omega

/-- The machine of a system, opened: the slices' blocks are kept, too. -/
theorem inv_open {Y : Sys B} {G : Nat → Prop} {x : Y.X} {nx : List Value} {q : Nat} {v1 v2 : Value} (hI : Y.Inv G x nx σ) (hG : G q) (ha : Apart [v1, v2] q) (hn : τ.n = σ.n) (hlt : ∀ v ∈ [v1, v2], ∀ b, blk v = some b → b < τ.n)
    (hk : ∀ c y, c ≠ q → σ.m c = some y → τ.m c = some y ∧ OffL [v1, v2] c) : Y.Inv (fun c => G c ∨ blk v1 = some c ∨ blk v2 = some c) x nx τ := by
  have hno : ∀ b, (blk v1 = some b ∨ blk v2 = some b) → σ.m b = none := fun b hb => by
    cases hm : σ.m b with
    | none => rfl
    | some y =>
      have hbq : b ≠ q := fun e => by
        subst e
        rcases hb with h | h
        · exact ha.1 h
        · exact ha.2.2.1 h
      have := (hk b y hbq hm).2
      rcases hb with h | h
      · exact absurd h this.1
      · exact absurd h this.2.1
  have h1 : Y.Inv (fun c => G c ∨ blk v1 = some c ∨ blk v2 = some c) x nx σ := by
    cases e1 : blk v1 with
    | none =>
      cases e2 : blk v2 with
      | none => exact Y.weak hI fun c hc => by simpa using hc
      | some b2 => exact Y.weak (Y.fresh hI (hno b2 (.inr e2)) (hn ▸ hlt v2 (by simp) b2 e2)) fun c hc => by simpa [eq_comm] using hc
    | some b1 =>
      have h2 := Y.fresh hI (hno b1 (.inl e1)) (hn ▸ hlt v1 (by simp) b1 e1)
      cases e2 : blk v2 with
      | none => exact Y.weak h2 fun c hc => by simpa [eq_comm] using hc
      | some b2 => exact Y.weak (Y.fresh h2 (hno b2 (.inr e2)) (hn ▸ hlt v2 (by simp) b2 e2)) fun c hc => by simpa [eq_comm, or_assoc] using hc
  exact Y.stable h1 (fun c y hc hx => (hk c y (fun e => hc (.inl (e ▸ hG))) hx).1) (by omega)
/-- The machine is closed again. -/
theorem inv_close {Y : Sys B} {G : Nat → Prop} {x : Y.X} {nx : List Value} {q : Nat} {v1 v2 : Value} {M : MM} (hI : Y.Inv (fun c => G c ∨ blk v1 = some c ∨ blk v2 = some c) x nx τ) (hG : G q) (hO : OpenO τ q 114 (mRoot M.ca M.er) (spM M) [v1, v2]) :
    ∃ σ'', To B τ σ'' ∧ σ''.m q = some (.comp (MaR M q)) ∧ Y.Inv G x nx σ'' ∧ σ''.n = τ.n ∧ ∀ c y, c ≠ q → τ.m c = some y → OffL [v1, v2] c → σ''.m c = some y := by
  have hl : ∃ σ'', To B τ σ'' ∧ σ''.m q = some (.comp (MaR M q)) ∧ σ''.n = τ.n ∧ ∀ c y, c ≠ q → τ.m c = some y → OffL [v1, v2] c → σ''.m c = some y := by
    have hin : ∀ v ∈ [v1, v2], ∀ b, blk v = some b → b ∈ q :: [v1, v2].filterMap blk := fun v hv b hb => List.mem_cons_of_mem _ (List.mem_filterMap.2 ⟨v, hv, hb⟩)
    refine ⟨τ.fold q (pick τ (q :: [v1, v2].filterMap blk)) (MaR M q), To.fold q _ (fun c o hc => ?_) ?_ ⟨[v1, v2], pick_of List.mem_cons_self hO.root, hO.own.keepR fun v hv b o hb hm => ?_, hO.apart⟩, by simp [St.fold], rfl, fun c x hc hx ho => ?_⟩
    · unfold pick at hc
      split at hc
      · split at hc <;> first | contradiction | skip
        rename_i o2 hm
        cases hc; exact hm
      · cases hc
    · rw [pick_of List.mem_cons_self hO.root]; rfl
    · simp only [hs, pick_of (hin v hv b hb) hm, Option.map_some]
    · have : c ∉ q :: [v1, v2].filterMap blk := fun hm => by
        rcases List.mem_cons.1 hm with h3 | h3
        · exact hc h3
        · obtain ⟨v, hv, hb⟩ := List.mem_filterMap.1 h3
          exact ho.mem v hv hb
      have hp : pick τ (q :: [v1, v2].filterMap blk) c = none := by unfold pick; rw [if_neg this]
      simp only [St.fold, if_neg hc, hp, Option.isSome_none, Bool.false_eq_true, if_false]; exact hx
  obtain ⟨σ'', hT, hq, hn, hk⟩ := hl
  refine ⟨σ'', hT, hq, Y.weak (Y.stable hI (fun c y hc hx => hk c y (fun e => hc (.inl (e ▸ hG))) hx ⟨fun e => hc (.inr (.inl e)), fun e => hc (.inr (.inr e)), trivial⟩) (by omega)) fun c hc => .inl hc, hn, hk⟩
set_option maxHeartbeats 8000000 in
theorem m_turn {Y : Sys B} {G : Nat → Prop} {a : Y.MA} {vs : List Value} {er : Int} {q : Nat} {t : Int} (hG : G q) (hm : σ.m q = some (.comp (MaR ⟨a.mv, a.ca, er, vs⟩ q))) (hI : Y.Inv G a.x vs σ) (hN : Y.n ≤ 1000) (hmv : a.mv.length ≤ 100000) (hca : a.ca ≤ 1000000000)
    (hK : ∀ vs' s, s.m q = some (.comp (MaR ⟨(Sys.turnA a t).1.mv, (Sys.turnA a t).1.ca, er, vs'⟩ q)) → Y.Inv G (Sys.turnA a t).1.x vs' s → σ.n ≤ s.n → (∀ c y, G c → c ≠ q → σ.m c = some y → s.m c = some y) → K (.bool (Sys.turnA a t).2) s) :
    Fn Tryz.prog B 41 #[.pointer (some ⟨q, 0, none⟩), .int .i64 t] σ K := by
  refine Fn.openO hm is41.en fun vv τ hwf hn hr ho ha hk => ?_
  have ho0 := ho
  obtain ⟨v1, v2, rfl, o1, o2⟩ := ho.two
  simp only at o1 o2
  obtain ⟨A1, c1, rfl, _⟩ := o1.is
  obtain ⟨A2, c2, rfl, _⟩ := o2.is
  have hI1 := inv_open hI hG ha hn (fun v hv b hb => by obtain ⟨o, ho'⟩ := ho0.at_ v hv b hb; exact (hwf.2 _ _ ho').2) hk
  have hlen := Y.len hI
  have hr0 := hr
  simp only [mRoot_two] at hr
  refine Fn.of' is41 (by simp) fun _ => ?_
  have no : ∀ s : St, s = τ → Sys.turnA a t = (a, false) → ∃ σ'', To B s σ'' ∧ K (.bool false) σ'' := fun s hs he => by
    subst hs
    rw [he] at hK
    refine ⟨_, To.closeO [_, _] hr0 ho ha hk, ?_⟩
    rw [St.set_same hm, hn]
    exact hK vs σ hm hI (Nat.le_refl _) fun c y _ _ hx => hx
  simp only [b41, Tryz.f41, Option.getD_some]
  by_cases h1 : t < 0
  · simp -implicitDefEqProofs (disch := first | omega | (simp only [St.set_n, St.up_n, List.length_cons, List.length_nil]; omega)) only [go_sem, Nat.reduceAdd, Nat.reduceMul, Nat.reduceSub, Int.reduceAdd, Int.reduceMul, Int.reduceSub, Int.reduceNeg, Int.reduceToNat, hr, h1]
    exact no _ rfl (by unfold Sys.turnA; rw [if_neg (by omega)])
  by_cases h2 : (vs.length : Int) ≤ t
  · simp -implicitDefEqProofs (disch := first | omega | (simp only [St.set_n, St.up_n, List.length_cons, List.length_nil]; omega)) only [go_sem, Nat.reduceAdd, Nat.reduceMul, Nat.reduceSub, Int.reduceAdd, Int.reduceMul, Int.reduceSub, Int.reduceNeg, Int.reduceToNat, hr, h1, h2]
    exact no _ rfl (by unfold Sys.turnA; rw [if_neg (by omega)])
  obtain ⟨j, rfl⟩ : ∃ j : Nat, t = j := ⟨t.toNat, by omega⟩
  obtain ⟨v, hv⟩ : ∃ v, vs[j]? = some v := ⟨vs[j]'(by omega), List.getElem?_eq_getElem (by omega)⟩
  obtain ⟨b2, _, sp2, e2, hc2, m2, l2, _⟩ := o2.has (by omega)
  cases e2
  have g2 := vs_get hv sp2
  have hjl : (j : Int) < vs.length := by omega
  have hqn := (hwf.2 _ _ hr).2
  have hb2q : b2 ≠ q := fun e => ha.2.2.1 (by rw [e]; rfl)
  rcases Y.val hI hv with ⟨hlv, rfl⟩ | ⟨hlv, f, d1, d2, rfl⟩
  · simp -implicitDefEqProofs (disch := first | omega | (simp only [St.set_n, St.up_n, List.length_cons, List.length_nil]; omega)) only [go_sem, Nat.reduceAdd, Nat.reduceMul, Nat.reduceSub, Int.reduceAdd, Int.reduceMul, Int.reduceSub, Int.reduceNeg, Int.reduceToNat, hr, h1, h2, m2, g2, hjl]
    exact no _ rfl (by unfold Sys.turnA; rw [if_neg (by simp [hlv])])
  have hT : Sys.turnA a (j : Int) = (⟨(Y.tr a.x j).1, if (Y.tr a.x j).2 then a.mv ++ [(j : Int)] else a.mv, a.ca + 1⟩, (Y.tr a.x j).2) := by
    unfold Sys.turnA
    rw [if_pos ⟨by omega, by omega, by simpa using hlv⟩]
    simp only [Int.toNat_natCast]
  rw [hT] at hK
  simp only at hK
  have hI2 := Y.stable hI1 (s' := τ.set q (.raw (.cells #[.slice A1 a.mv.length c1, .int .i64 (a.ca + 1), .int .i64 er, .slice (some ⟨b2, 0, none⟩) vs.length c2] 114 (0, 0)))) (fun c y hc hx => by
    have : c ≠ q := fun e => hc (.inl (e ▸ hG))
    simp -implicitDefEqProofs (disch := first | omega | (simp only [St.set_n, St.up_n, List.length_cons, List.length_nil]; omega)) only [go_sem, Nat.reduceAdd, Nat.reduceMul, Nat.reduceSub, Int.reduceAdd, Int.reduceMul, Int.reduceSub, Int.reduceNeg, Int.reduceToNat, hx]) (Nat.le_refl _)
  simp -implicitDefEqProofs (disch := first | omega | (simp only [St.set_n, St.up_n, List.length_cons, List.length_nil]; omega)) only [go_sem, Nat.reduceAdd, Nat.reduceMul, Nat.reduceSub, Int.reduceAdd, Int.reduceMul, Int.reduceSub, Int.reduceNeg, Int.reduceToNat, hr, h1, h2, m2, g2, hjl, hb2q]
  refine callF_wf ((Y.step (hwf.set _ (hwf.2 _ _ hr)) hI2 hlv hv).mono ?_)
  rintro r s1 ⟨v', rfl, hst, hI3, hn1, hk1⟩ hws1
  have hr1 : s1.m q = some (.raw (.cells #[.slice A1 a.mv.length c1, .int .i64 (a.ca + 1), .int .i64 er, .slice (some ⟨b2, 0, none⟩) vs.length c2] 114 (0, 0))) := hk1 q _ (.inl hG) (by simp -implicitDefEqProofs (disch := first | omega | (simp only [St.set_n, St.up_n, List.length_cons, List.length_nil]; omega)) only [go_sem, Nat.reduceAdd, Nat.reduceMul, Nat.reduceSub, Int.reduceAdd, Int.reduceMul, Int.reduceSub, Int.reduceNeg, Int.reduceToNat])
  have m21 : s1.m b2 = some (.raw (.cells (vs ++ sp2).toArray 50 (0, 0))) := hk1 b2 _ (.inr (.inr rfl)) (by simp -implicitDefEqProofs (disch := first | omega | (simp only [St.set_n, St.up_n, List.length_cons, List.length_nil]; omega)) only [go_sem, Nat.reduceAdd, Nat.reduceMul, Nat.reduceSub, Int.reduceAdd, Int.reduceMul, Int.reduceSub, Int.reduceNeg, Int.reduceToNat, m2])
  have o11 : Own s1 3 1 (ints a.mv) a.mv.length (.slice A1 a.mv.length c1) := o1.keepR fun b o hb ho => hk1 b _ (.inr (.inl hb)) (by
    have : b ≠ q := fun e => ha.1 (e ▸ hb)
    simp -implicitDefEqProofs (disch := first | omega | (simp only [St.set_n, St.up_n, List.length_cons, List.length_nil]; omega)) only [go_sem, Nat.reduceAdd, Nat.reduceMul, Nat.reduceSub, Int.reduceAdd, Int.reduceMul, Int.reduceSub, Int.reduceNeg, Int.reduceToNat, ho])
  have hn1' : τ.n ≤ s1.n := hn1
  have hold1 : ∀ c y, G c → c ≠ q → σ.m c = some y → s1.m c = some y ∧ OffL [.slice A1 a.mv.length c1, .slice (some ⟨b2, 0, none⟩) vs.length c2] c := fun c y hc hcq hx => by
    obtain ⟨h5, h6⟩ := hk c y hcq hx
    exact ⟨hk1 c y (.inl hc) (by simp -implicitDefEqProofs (disch := first | omega | (simp only [St.set_n, St.up_n, List.length_cons, List.length_nil]; omega)) only [go_sem, Nat.reduceAdd, Nat.reduceMul, Nat.reduceSub, Int.reduceAdd, Int.reduceMul, Int.reduceSub, Int.reduceNeg, Int.reduceToNat, h5]), h6⟩
  cases hok : (Y.tr a.x j).2 with
  | false =>
    rw [hok] at hI3 hK
    simp only [Bool.false_eq_true, if_false] at hI3 hK
    simp -implicitDefEqProofs (disch := first | omega | (simp only [St.set_n, St.up_n, List.length_cons, List.length_nil]; omega)) only [go_sem, Nat.reduceAdd, Nat.reduceMul, Nat.reduceSub, Int.reduceAdd, Int.reduceMul, Int.reduceSub, Int.reduceNeg, Int.reduceToNat]
    obtain ⟨σ'', hT2, hq2, hI4, hn4, hk4⟩ := inv_close (M := ⟨a.mv, (a.ca : Int) + 1, er, vs⟩) hI3 hG ⟨hr1, ⟨o11, Own.of' (sp := sp2) m21 (by omega) hc2 (by omega), trivial⟩, ha⟩
    refine ⟨σ'', hT2, hK vs σ'' hq2 hI4 (by omega) fun c y hc hcq hx => ?_⟩
    obtain ⟨h5, h6⟩ := hold1 c y hc hcq hx
    exact hk4 c y hcq h5 h6
  | true =>
    rw [hok] at hI3 hK
    simp only [if_true] at hI3 hK
    have hv1 : v'.oneCell' = true ∧ vc v' = #[v'] := by
      rcases hst with rfl | ⟨_, _, _, rfl⟩ <;> exact ⟨rfl, rfl⟩
    simp -implicitDefEqProofs (disch := first | omega | (simp only [St.set_n, St.up_n, List.length_cons, List.length_nil]; omega)) only [go_sem, Nat.reduceAdd, Nat.reduceMul, Nat.reduceSub, Int.reduceAdd, Int.reduceMul, Int.reduceSub, Int.reduceNeg, Int.reduceToNat, hr1]
    refine appE hws1 o11 se22 kd22 zr3 rfl (by omega) (ys := [.int .i64 j]) rfl rfl (by omega) fun A' C' s2 hC' o2' heq hb1 hn2 hws2 => ?_
    have hs1q := (hws1.2 _ _ hr1).2
    have hs1b := (hws1.2 _ _ m21).2
    have hb2m : blk (.slice A1 a.mv.length c1) ≠ some b2 := fun e => ha.2.1.1 b2 e rfl
    have r2 := (heq q hs1q ha.1).trans hr1
    have m22 := (heq b2 hs1b hb2m).trans m21
    have st : (vs ++ sp2).set j v' = vs.set j v' ++ sp2 := by rw [List.set_append_left _ _ (by omega)]
    simp -implicitDefEqProofs (disch := first | omega | (simp only [St.set_n, St.up_n, List.length_cons, List.length_nil]; omega)) only [go_sem, Nat.reduceAdd, Nat.reduceMul, Nat.reduceSub, Int.reduceAdd, Int.reduceMul, Int.reduceSub, Int.reduceNeg, Int.reduceToNat, r2, m22, hb2q, hjl, hv1.1, hv1.2, st]
    have hb1q : blk (.slice A' (a.mv.length + 1) C') ≠ some q := fun e => by
      rcases hb1 q e with h | h
      · omega
      · exact ha.1 h
    have hb1b : blk (.slice A' (a.mv.length + 1) C') ≠ some b2 := fun e => by
      rcases hb1 b2 e with h | h
      · omega
      · exact hb2m h
    have hI4 : Y.Inv (fun c => G c ∨ blk (.slice A' (a.mv.length + 1) C') = some c ∨ blk (.slice (some ⟨b2, 0, none⟩) vs.length c2) = some c ∨ blk (.slice A1 a.mv.length c1) = some c) (Y.tr a.x j).1 (vs.set j v') (s1.up s2.n) := by
      have hI3 := Y.stable hI3 (s' := s1.up s2.n) (fun c y _ hx => hx) hn2
      cases e1 : blk (.slice A' (a.mv.length + 1) C') with
      | none =>
        refine Y.weak hI3 fun c hc => ?_
        rcases hc with h | h | h | h
        · exact .inl h
        · cases h
        · exact .inr (.inr h)
        · exact .inr (.inl h)
      | some b' =>
        rcases hb1 b' e1 with h | h
        · have hno : s1.m b' = none := by
            cases hx : s1.m b' with
            | none => rfl
            | some y => have := (hws1.2 _ _ hx).2; omega
          have hlt2 : b' < s2.n := by
            obtain ⟨o, ho'⟩ := o2'.at_ e1
            exact (hws2.2 _ _ ho').2
          refine Y.weak (Y.fresh hI3 hno hlt2) fun c hc => ?_
          rcases hc with h | h | h | h
          · exact .inl (.inl h)
          · exact .inr (Option.some.inj h).symm
          · exact .inl (.inr (.inr h))
          · exact .inl (.inr (.inl h))
        · refine Y.weak hI3 fun c hc => ?_
          rcases hc with h' | h' | h' | h'
          · exact .inl h'
          · exact .inr (.inl (h.trans h'))
          · exact .inr (.inr h')
          · exact .inr (.inl h')
    have hkF : ∀ c y, c ≠ q → c ≠ b2 → c < s1.n → blk (.slice A1 a.mv.length c1) ≠ some c → s1.m c = some y → ((s2.set q (.raw (.cells #[.slice A' (a.mv.length + 1) C', .int .i64 (a.ca + 1), .int .i64 er, .slice (some ⟨b2, 0, none⟩) vs.length c2] 114 (0, 0)))).set b2 (.raw (.cells (vs.set j v' ++ sp2).toArray 50 (0, 0)))).m c = some y := fun c y h3 h4 h5 h6 hx => by
      have := (heq c h5 h6).trans hx
      simp -implicitDefEqProofs (disch := first | omega | (simp only [St.set_n, St.up_n, List.length_cons, List.length_nil]; omega)) only [go_sem, Nat.reduceAdd, Nat.reduceMul, Nat.reduceSub, Int.reduceAdd, Int.reduceMul, Int.reduceSub, Int.reduceNeg, Int.reduceToNat, this]
    have hI5 := Y.weak (Y.stable hI4 (s' := (s2.set q (.raw (.cells #[.slice A' (a.mv.length + 1) C', .int .i64 (a.ca + 1), .int .i64 er, .slice (some ⟨b2, 0, none⟩) vs.length c2] 114 (0, 0)))).set b2 (.raw (.cells (vs.set j v' ++ sp2).toArray 50 (0, 0)))) (fun c y hc hx => hkF c y (fun e => hc (.inl (e ▸ hG))) (fun e => hc (.inr (.inr (.inl (by rw [e]; rfl))))) (hws1.2 _ _ hx).2 (fun e => hc (.inr (.inr (.inr e)))) hx) (Nat.le_refl _))
      (G := fun c => G c ∨ blk (.slice A' (a.mv.length + 1) C') = some c ∨ blk (.slice (some ⟨b2, 0, none⟩) vs.length c2) = some c) fun c hc => by
        rcases hc with h | h | h
        · exact .inl h
        · exact .inr (.inl h)
        · exact .inr (.inr (.inl h))
    have hls : (vs.set j v').length = vs.length := List.length_set
    have hO : OpenO ((s2.set q (.raw (.cells #[.slice A' (a.mv.length + 1) C', .int .i64 (a.ca + 1), .int .i64 er, .slice (some ⟨b2, 0, none⟩) vs.length c2] 114 (0, 0)))).set b2 (.raw (.cells (vs.set j v' ++ sp2).toArray 50 (0, 0)))) q 114 (mRoot ((a.ca : Int) + 1) er) (spM ⟨a.mv ++ [(j : Int)], (a.ca : Int) + 1, er, vs.set j v'⟩) [.slice A' (a.mv.length + 1) C', .slice (some ⟨b2, 0, none⟩) vs.length c2] := by
      refine ⟨by simp -implicitDefEqProofs (disch := first | omega | (simp only [St.set_n, St.up_n, List.length_cons, List.length_nil]; omega)) only [go_sem, Nat.reduceAdd, Nat.reduceMul, Nat.reduceSub, Int.reduceAdd, Int.reduceMul, Int.reduceSub, Int.reduceNeg, Int.reduceToNat], ⟨?_, ?_, trivial⟩, ⟨hb1q, ⟨fun b hb hb' => ?_, trivial⟩, ha.2.2⟩⟩
      · show Own _ 3 1 (ints (a.mv ++ [(j : Int)])) (a.mv ++ [(j : Int)]).length _
        have hl1 : (a.mv ++ [(j : Int)]).length = a.mv.length + 1 := by simp
        rw [hl1, ints_append]
        refine o2'.keepR fun b o hb ho => ?_
        have h3 : b ≠ q := fun e => hb1q (e ▸ hb)
        have h4 : b ≠ b2 := fun e => hb1b (e ▸ hb)
        simp -implicitDefEqProofs (disch := first | omega | (simp only [St.set_n, St.up_n, List.length_cons, List.length_nil]; omega)) only [go_sem, Nat.reduceAdd, Nat.reduceMul, Nat.reduceSub, Int.reduceAdd, Int.reduceMul, Int.reduceSub, Int.reduceNeg, Int.reduceToNat, ho]
      · show Own _ 50 1 (vs.set j v') (vs.set j v').length _
        rw [hls]
        exact Own.of' (sp := sp2) (by simp -implicitDefEqProofs (disch := first | omega | (simp only [St.set_n, St.up_n, List.length_cons, List.length_nil]; omega)) only [go_sem, Nat.reduceAdd, Nat.reduceMul, Nat.reduceSub, Int.reduceAdd, Int.reduceMul, Int.reduceSub, Int.reduceNeg, Int.reduceToNat]) (by omega) hc2 (by simp only [List.length_append, hls] at l2 ⊢; omega)
      · simp only [blk, Option.some.injEq] at hb'
        exact hb1b (hb' ▸ hb)
    obtain ⟨σ'', hT2, hq2, hI6, hn4, hk4⟩ := inv_close (M := ⟨a.mv ++ [(j : Int)], (a.ca : Int) + 1, er, vs.set j v'⟩) hI5 hG hO
    refine ⟨σ'', hT2, hK _ σ'' hq2 hI6 (by simp only [St.set_n] at hn4; omega) fun c y hc hcq hx => ?_⟩
    obtain ⟨h5, h6⟩ := hold1 c y hc hcq hx
    have hcn := (hwf.2 _ _ (hk c y hcq hx).1).2
    have hcb : c ≠ b2 := fun e => h6.2.1 (by rw [e]; rfl)
    refine hk4 c y hcq (hkF c y hcq hcb (by omega) h6.1 h5) ⟨fun e => ?_, h6.2⟩
    rcases hb1 c e with h | h
    · omega
    · exact h6.1 h
end
end Go.Proofs.YtdbgeahmhfocaaaGreat
