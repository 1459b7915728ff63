/- Slices that a frame owns: 'append', and what of the rest is kept. -/
import Derived.Test.YtbjgoajdfdonfaaEngY
namespace Go.Proofs.Ytbjgoajdfdonfaa
set_option linter.unusedSimpArgs false
set_option linter.unusedVariables false
open Go Go.RowKit

section
variable {P : Program} {B : World} {s : St} {d : Option Tmp} {K : Fr → St → Prop} {e : Fr}

/-- 'append' of one element to a slice that the frame owns. -/
theorem appF_one {t xt el : TypeId} {sz bts n c : Nat} {z w : Value} {cs ys : List Value} (hwf : s.wf B) (hw : Own s el sz cs n w) (ht : se P t = some (el, sz, bts)) (hxt : kd P xt = .slice) (hz : zr P el = some z) (hzs : z.cells.size = sz) (hb0 : bts ≠ 0)
    {ty : TypeId} (hyl : ys.length = sz) (hy1 : ys.all Value.oneCell' = true) (hroom : (2 * (n + 1) + 768) * bts ≤ 2 ^ 48)
    (hK : ∀ A C σ', n + 1 ≤ C → Own σ' el sz (cs ++ ys) (n + 1) (.slice A (n + 1) C) → σ'.wf B →
      (∀ (ty' : TypeId) (sz' n' : Nat) (cs' : List Value) (u : Value), Own s ty' sz' cs' n' u → Dis w u → Own σ' ty' sz' cs' n' u ∧ Dis (.slice A (n + 1) C) u) →
      (∀ c x, s.m c = some x → blk w ≠ some c → σ'.m c = some x) → (∀ b, blk (.slice A (n + 1) C) = some b → s.n ≤ b ∨ blk w = some b) → s.n ≤ σ'.n → K (e.put d (.slice A (n + 1) C)) σ') :
    appK P B t xt w (.slice (some ⟨s.n, 0, none⟩) 1 c) d K e ((s.set s.n (.raw (.cells ys.toArray ty (0, 0)))).up (s.n + 1)) := by
  have keep : ∀ c x, s.m c = some x → ((s.set s.n (.raw (.cells ys.toArray ty (0, 0)))).up (s.n + 1)).m c = some x := fun c x hc => by
    have := (hwf.2 c _ hc).2
    simp only [St.up_m]
    rw [St.set_m_ne _ _ (by omega)]; exact hc
  refine appK_one2 ht hxt hz hzs hb0 (hw.keepR fun b o _ hb => keep b _ hb) (ty := ty) (fz := (0, 0)) (by simp) hyl hy1 hroom fun v' σ' h1 h2 h3 h4 => ?_
  obtain ⟨A, C, rfl, hC⟩ := h1.is
  simp only [St.up_n] at h2 h4
  have hle : s.n ≤ σ'.n := by omega
  have hb : ∀ b, blk (.slice A (n + 1) C) = some b → s.n ≤ b ∨ blk w = some b := fun b hb => (h2 b hb).imp (fun h => by omega) id
  have hk : ∀ c x, s.m c = some x → blk w ≠ some c → σ'.m c = some x := fun c x hc hw' => by
    have hcn := (hwf.2 c _ hc).2
    rw [h3 c fun e => (hb c e).elim (by omega) hw']
    exact keep c x hc
  have hdis : ∀ u, (∀ b, blk u = some b → ∃ o, s.m b = some (.raw o)) → Dis w u → Dis (.slice A (n + 1) C) u := fun u hu hd b hbv hbu => by
    rcases hb b hbv with h | h
    · obtain ⟨o, ho⟩ := hu b hbu
      have := (hwf.2 b _ ho).2; omega
    · exact hd b h hbu
  refine hK A C σ' hC h1 ⟨Nat.le_trans hwf.1 hle, fun c x hc => ?_⟩ (fun ty' sz' n' cs' u hu hd => ⟨hu.keepR fun b o hbu ho => hk b _ ho fun e => hd b e hbu, hdis u (fun b hb => hu.at_ hb) hd⟩) hk hb hle
  have hB := hwf.1
  by_cases e1 : blk (.slice A (n + 1) C) = some c
  · rcases h2 c e1 with ⟨e2, e3⟩ | e2
    · omega
    · obtain ⟨o, ho⟩ := hw.at_ e2
      have := hwf.2 c _ ho; omega
  · rw [h3 c e1] at hc
    simp only [St.up_m] at hc
    by_cases e2 : c = s.n
    · omega
    · rw [St.set_m_ne _ _ e2] at hc
      have := hwf.2 c _ hc; omega
end
end Go.Proofs.Ytbjgoajdfdonfaa
