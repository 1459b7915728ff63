/- Slices that a frame owns: 'append', and what of the rest is kept. -/
import Derived.Test.YtdbgeahmhfocaaaGreatEngY
namespace Go.Proofs.YtdbgeahmhfocaaaGreat
set_option linter.unusedSimpArgs false
set_option linter.unusedVariables false
open Go Go.RowKit

section
variable {P : Program} {B : World} {s : St} {d : Option Tmp} {K : Fr → St → Prop} {e : Fr}

/-- 'append' of one element to a slice that the frame owns. -/
theorem appF_one {t xt el : TypeId} {sz bts n c : Nat} {z w : Value} {cs ys : List Value} (hwf : s.wf B) (hw : Own s el sz cs n w) (ht : se P t = some (el, sz, bts)) (hxt : kd P xt = .slice) (hz : zr P el = some z) (hzs : z.cells.size = sz) (hb0 : bts ≠ 0)
    {ty : TypeId} (hyl : ys.length = sz) (hy1 : ys.all Value.oneCell' = true) (hroom : (2 * (n + 1) + 768) * bts ≤ 2 ^ 48)
    (hK : ∀ A C σ', n + 1 ≤ C → Own σ' el sz (cs ++ ys) (n + 1) (.slice A (n + 1) C) → σ'.wf B →
      (∀ (ty' : TypeId) (sz' n' : Nat) (cs' : List Value) (u : Value), Own s ty' sz' cs' n' u → Dis w u → Own σ' ty' sz' cs' n' u ∧ Dis (.slice A (n + 1) C) u) →
      (∀ c x, s.m c = some x → blk w ≠ some c → σ'.m c = some x) → (∀ b, blk (.slice A (n + 1) C) = some b → s.n ≤ b ∨ blk w = some b) → s.n ≤ σ'.n → K (e.put d (.slice A (n + 1) C)) σ') :
    appK P B t xt w (.slice (some ⟨s.n, 0, none⟩) 1 c) d K e ((s.set s.n (.raw (.cells ys.toArray ty (0, 0)))).up (s.n + 1)) := by
  have keep : ∀ c x, s.m c = some x → ((s.set s.n (.raw (.cells ys.toArray ty (0, 0)))).up (s.n + 1)).m c = some x := fun c x hc => by
    have := (hwf.2 c _ hc).2
    simp only [St.up_m]
    rw [St.set_m_ne _ _ (by omega)]; exact hc
  refine appK_one2 ht hxt hz hzs hb0 (hw.keepR fun b o _ hb => keep b _ hb) (ty := ty) (fz := (0, 0)) (by simp) hyl hy1 hroom fun v' σ' h1 h2 h3 h4 => ?_
  obtain ⟨A, C, rfl, hC⟩ := h1.is
  simp only [St.up_n] at h2 h4
  have hle : s.n ≤ σ'.n := by omega
  have hb : ∀ b, blk (.slice A (n + 1) C) = some b → s.n ≤ b ∨ blk w = some b := fun b hb => (h2 b hb).imp (fun h => by omega) id
  have hk : ∀ c x, s.m c = some x → blk w ≠ some c → σ'.m c = some x := fun c x hc hw' => by
    have hcn := (hwf.2 c _ hc).2
    rw [h3 c fun e => (hb c e).elim (by omega) hw']
    exact keep c x hc
  have hdis : ∀ u, (∀ b, blk u = some b → ∃ o, s.m b = some (.raw o)) → Dis w u → Dis (.slice A (n + 1) C) u := fun u hu hd b hbv hbu => by
    rcases hb b hbv with h | h
    · obtain ⟨o, ho⟩ := hu b hbu
      have := (hwf.2 b _ ho).2; omega
    · exact hd b h hbu
  refine hK A C σ' hC h1 ⟨Nat.le_trans hwf.1 hle, fun c x hc => ?_⟩ (fun ty' sz' n' cs' u hu hd => ⟨hu.keepR fun b o hbu ho => hk b _ ho fun e => hd b e hbu, hdis u (fun b hb => hu.at_ hb) hd⟩) hk hb hle
  have hB := hwf.1
  by_cases e1 : blk (.slice A (n + 1) C) = some c
  · rcases h2 c e1 with ⟨e2, e3⟩ | e2
    · omega
    · obtain ⟨o, ho⟩ := hw.at_ e2
      have := hwf.2 c _ ho; omega
  · rw [h3 c e1] at hc
    simp only [St.up_m] at hc
    by_cases e2 : c = s.n
    · omega
    · rw [St.set_m_ne _ _ e2] at hc
      have := hwf.2 c _ hc; omega

theorem Rd.mono' {l : Nat} {args : Array Value} {σ : St} {K K' : Value → St → Prop} (h : Rd P B l args σ K) (hk : ∀ v σ', K v σ' → K' v σ') : Rd P B l args σ K' := by
  obtain ⟨r, h1, h2, h3⟩ := h
  exact ⟨r, h1, h2, fun w hw => RoundIn.mono (h3 w hw) fun _ _ ⟨v, s, a, b, d⟩ => ⟨v, s, a, b, hk _ _ d⟩⟩
/-- An object is closed; what else lies open is kept. -/
theorem Opn.leave {σ τ : St} {p : Nat} {ty : TypeId} {root : List Value → List Value} {sp : List Sp} {vs : List Value} (h : Opn B σ τ p ty root sp vs) :
    ∃ σ'', To B τ σ'' ∧ σ''.m p = some (.comp (Obj ty root sp p)) ∧ σ''.n = τ.n ∧ ∀ c x, c ≠ p → τ.m c = some x → OffL vs c → σ''.m c = some x := by
  have hin : ∀ v ∈ vs, ∀ b, blk v = some b → b ∈ p :: vs.filterMap blk := fun v hv b hb => List.mem_cons_of_mem _ (List.mem_filterMap.2 ⟨v, hv, hb⟩)
  refine ⟨τ.fold p (pick τ (p :: vs.filterMap blk)) (Obj ty root sp p), To.fold p _ (fun c o hc => ?_) ?_ ⟨vs, pick_of List.mem_cons_self h.root, h.own.keepR fun v hv b o hb hm => ?_, h.apart⟩, by simp [St.fold], rfl, fun c x hc hx ho => ?_⟩
  · unfold pick at hc
    split at hc
    · split at hc <;> first | contradiction | skip
      rename_i o2 hm
      cases hc; exact hm
    · cases hc
  · rw [pick_of List.mem_cons_self h.root]; rfl
  · simp only [hs, pick_of (hin v hv b hb) hm, Option.map_some]
  · have : c ∉ p :: vs.filterMap blk := fun hm => by
      rcases List.mem_cons.1 hm with h3 | h3
      · exact hc h3
      · obtain ⟨v, hv, hb⟩ := List.mem_filterMap.1 h3
        exact ho.mem v hv hb
    have hp : pick τ (p :: vs.filterMap blk) c = none := by unfold pick; rw [if_neg this]
    simp only [St.fold, if_neg hc, hp, Option.isSome_none, Bool.false_eq_true, if_false]; exact hx
end

/-! ### An element of an array's value -/
section
variable {P : Program} {t : TypeId} {k : IntKind}
def ixA (l : List Value) (i : Int) : Option (Option Nat × Nat × Bool) → Option Value
  | some (some n, s, false) => if 0 ≤ i ∧ i < n then nthV l (i.toNat * s) else none
  | some (some n, s, true) => if 0 ≤ i ∧ i < n then some (.agg (l.toArray.extract (i.toNat * s) (i.toNat * s + s))) else none
  | _ => none
@[go_sem] theorem ixv_agg {l : List Value} {i : Int} : ixv P t (.agg l.toArray) (.int k i) = ixA l i (ik P t) := by
  unfold ixv ixA
  simp only
  cases ik P t with
  | none => rfl
  | some x =>
    obtain ⟨y, s, g⟩ := x
    cases y with
    | none => rfl
    | some y => cases g <;> simp [nthV_eq]
@[go_sem] theorem ixA_one {l : List Value} {i : Int} {n s : Nat} : ixA l i (some (some n, s, false)) = if 0 ≤ i ∧ i < n then nthV l (i.toNat * s) else none := rfl
end
end Go.Proofs.YtdbgeahmhfocaaaGreat
