/- The law's closures over the world: one instruction each. -/
import Derived.Test.YtgcojbgkenndhaaWorld
import Derived.Test.YtgcojbgkenndhaaMachW
namespace Go.Proofs.Ytgcojbgkenndhaa
set_option linter.unusedSimpArgs false
set_option linter.unusedVariables false
set_option maxRecDepth 100000
open Go Go.RowKit
section
variable {B : World} {σ τ : St} {K : Value → St → Prop}
def RIn (x : Int × Int) (cs : List Value) : Prop := cs = [.int .i64 x.1, .int .i64 x.2]
def RTh (B : World) (l : List (Int × Int)) (cs : List Value) : Prop := ∃ v, cs = [v] ∧ SlR B 2 RIn l v
abbrev clV (x3 b6 b8 x2 : Nat) : Value := .func (.func 63) #[] #[.pointer (some ⟨x3, 0, none⟩), .pointer (some ⟨b6, 0, none⟩), .pointer (some ⟨b8, 0, none⟩), .pointer (some ⟨x2, 0, none⟩)]
/-- A cell that can be read: one of the caller's, or one of a block that 'Bx' keeps. -/
def CellB (Bx : Nat → HP → Prop) (B : World) (b i : Nat) (v : Value) : Prop :=
  (b < B.heap.size ∧ B.cell? ⟨b, i, none⟩ = some v) ∨ ∃ c ty, Bx b (.raw (.cells c ty (0, 0))) ∧ c[i]? = some v
theorem CellB.rd {Bx : Nat → HP → Prop} {b i : Nat} {v : Value} {s : St} (h : CellB Bx B b i v) (hws : s.wf B) (hB : ∀ c y, Bx c y → s.m c = some y) : rdK B b i (s.m b) = some v ∧ b < s.n := by
  rcases h with ⟨h1, h2⟩ | ⟨c, ty, h1, h2⟩
  · have : s.m b = none := by
      cases hx : s.m b with
      | none => rfl
      | some y => have := (hws.2 _ _ hx).1; omega
    rw [this, rdK_none, if_pos h1]
    exact ⟨h2, by have := hws.1; omega⟩
  · have h3 := hB _ _ h1
    rw [h3]
    exact ⟨h2, (hws.2 _ _ h3).2⟩
theorem CellB.mono {Bx Bx' : Nat → HP → Prop} {b i : Nat} {v : Value} (h : CellB Bx B b i v) (hB : ∀ c y, Bx c y → Bx' c y) : CellB Bx' B b i v :=
  h.imp id fun ⟨c, ty, h1, h2⟩ => ⟨c, ty, hB _ _ h1, h2⟩
/-- An instruction of the threads 'tv'. -/
structure RdI (Bx : Nat → HP → Prop) (B : World) (tv : Value) (t p : Nat) (x : Int × Int) : Prop where
  ex : ∃ b o n cap b1 o1 n1 cap1, tv = .slice (some ⟨b, o, none⟩) n cap ∧ t < n ∧ n ≤ 100000 ∧ CellB Bx B b (o + t) (.slice (some ⟨b1, o1, none⟩) n1 cap1) ∧ p < n1 ∧ n1 ≤ 100000 ∧ CellB Bx B b1 (o1 + p * 2) (.int .i64 x.1) ∧ CellB Bx B b1 (o1 + p * 2 + 1) (.int .i64 x.2)
/-- The threads 'tv'. -/
structure RdV (Bx : Nat → HP → Prop) (B : World) (th : List (List (Int × Int))) (tv : Value) : Prop where
  ex : ∃ a cap, tv = .slice a th.length cap ∧ ∀ t l, th[t]? = some l → ∃ b o a1 cap1, a = some ⟨b, o, none⟩ ∧ CellB Bx B b (o + t) (.slice a1 l.length cap1) ∧
    ∀ p x, l[p]? = some x → ∃ b1 o1, a1 = some ⟨b1, o1, none⟩ ∧ CellB Bx B b1 (o1 + p * 2) (.int .i64 x.1) ∧ CellB Bx B b1 (o1 + p * 2 + 1) (.int .i64 x.2)
theorem RdV.of {th : List (List (Int × Int))} {tv : Value} (h : SlR B 1 (RTh B) th tv) : RdV (fun _ _ => False) B th tv := by
  obtain ⟨a, cap, rfl, hlc, hcm, hnil, hat⟩ := h
  refine ⟨a, cap, rfl, fun t l hl => ?_⟩
  obtain ⟨b, o, cs, rfl, hbb, ⟨v1, hcs, hv1⟩, hsz, hcell⟩ := hat t l hl
  subst hcs
  have c0 : B.cell? ⟨b, o + t * 1, none⟩ = _ := hcell 0 _ rfl
  rw [Nat.mul_one] at c0
  obtain ⟨a1, cap1, rfl, hlc1, hcm1, hnil1, hat1⟩ := hv1
  refine ⟨b, o, a1, cap1, rfl, .inl ⟨hbb, c0⟩, fun p x hx => ?_⟩
  obtain ⟨b1, o1, cs1, rfl, hbb1, hRx, hsz1, hcell1⟩ := hat1 p x hx
  simp only [RIn] at hRx
  subst hRx
  exact ⟨b1, o1, rfl, .inl ⟨hbb1, hcell1 0 _ rfl⟩, .inl ⟨hbb1, hcell1 1 _ rfl⟩⟩
theorem RdV.mono {Bx Bx' : Nat → HP → Prop} {th : List (List (Int × Int))} {tv : Value} (h : RdV Bx B th tv) (hB : ∀ c y, Bx c y → Bx' c y) : RdV Bx' B th tv := by
  obtain ⟨a, cap, rfl, hat⟩ := h.ex
  refine ⟨a, cap, rfl, fun t l hl => ?_⟩
  obtain ⟨b, o, a1, cap1, rfl, h1, h2⟩ := hat t l hl
  refine ⟨b, o, a1, cap1, rfl, h1.mono hB, fun p x hx => ?_⟩
  obtain ⟨b1, o1, rfl, h3, h4⟩ := h2 p x hx
  exact ⟨b1, o1, rfl, h3.mono hB, h4.mono hB⟩
theorem RdV.ins {Bx : Nat → HP → Prop} {th : List (List (Int × Int))} {tv : Value} (h : RdV Bx B th tv) {t p : Nat} {l : List (Int × Int)} {x : Int × Int} (hl : th[t]? = some l) (hx : l[p]? = some x) (h1 : th.length ≤ 100000) (h2 : l.length ≤ 100000) : RdI Bx B tv t p x := by
  obtain ⟨a, cap, rfl, hat⟩ := h.ex
  obtain ⟨b, o, a1, cap1, rfl, h3, h4⟩ := hat t l hl
  obtain ⟨b1, o1, rfl, h5, h6⟩ := h4 p x hx
  exact ⟨b, o, _, cap, b1, o1, _, cap1, rfl, (List.getElem?_eq_some_iff.1 hl).1, h1, h3, (List.getElem?_eq_some_iff.1 hx).1, h2, h5, h6⟩
theorem RdI.mono {Bx Bx' : Nat → HP → Prop} {tv : Value} {t p : Nat} {x : Int × Int} (h : RdI Bx B tv t p x) (hB : ∀ c y, Bx c y → Bx' c y) : RdI Bx' B tv t p x := by
  obtain ⟨b, o, n, cap, b1, o1, n1, cap1, e, h1, h2, h3, h4, h5, h6, h7⟩ := h.ex
  exact ⟨b, o, n, cap, b1, o1, n1, cap1, e, h1, h2, h3.mono hB, h4, h5, h6.mono hB, h7.mono hB⟩
theorem cl_call {S : WS} {q x3 b6 b8 x2 t p : Nat} {Bx : Nat → HP → Prop} {x : Int × Int} {tv : Value}
    (hm : σ.m q = some (.comp (WoR S q))) (hD : S.D.length ≤ 100000) (ht : t ≤ 1000)
    (h3 : σ.m x3 = some (.raw (.cells #[.pointer (some ⟨q, 0, none⟩)] 79 (0, 0)))) (h6 : σ.m b6 = some (.raw (.cells #[.int .i64 t] 3 (0, 0)))) (h8 : σ.m b8 = some (.raw (.cells #[.int .i64 p] 3 (0, 0))))
    (h2 : σ.m x2 = some (.raw (.cells #[tv] 77 (0, 0)))) (hv : RdI Bx B tv t p x) (hB : ∀ c y, Bx c y → σ.m c = some y)
    (hK : ∀ k, σ.n ≤ k → K (.bool (doA S t p x.1 x.2).2) ((σ.set q (.comp (WoR (doA S t p x.1 x.2).1 q))).up k)) :
    Fn Try.prog B 63 #[.pointer (some ⟨x3, 0, none⟩), .pointer (some ⟨b6, 0, none⟩), .pointer (some ⟨b8, 0, none⟩), .pointer (some ⟨x2, 0, none⟩)] σ K := by
  refine Fn.of is63 (by simp) fun hwf => ?_
  obtain ⟨b, o, n, cap, b1, o1, n1, cap1, rfl, htn, hn1, c1, hpn, hn2, c2, c3⟩ := hv.ex
  obtain ⟨r0, _⟩ := c1.rd hwf hB
  obtain ⟨r1, _⟩ := c2.rd hwf hB
  obtain ⟨r2, _⟩ := c3.rd hwf hB
  simp only [b63, Try.f63, Option.getD_some]
  simp -implicitDefEqProofs (disch := first | omega | (simp only [St.set_n, St.up_n, List.length_cons, List.length_nil]; omega)) only [go_sem, Nat.reduceAdd, Nat.reduceMul, Nat.reduceSub, Int.reduceAdd, Int.reduceMul, Int.reduceSub, Int.reduceNeg, Int.reduceToNat, h3, h6, h8, h2, r0, r1, r2]
  refine effD_plan [0, 0, 0, 0, 0, 24, 56, 0, 248, 504, 1023, 2047] [0, 1, 2, 3, 4, 5, 6, 7, 8, 9, 11] (.eagq 0 (.eagq 1 (.eagq 2 (.eagq 3 (.eagq 4 (.eag 5 (.eagq 6 (.eagq 7 (.eag 8 (.eagq 9 (.alt 10 [] (.eag 11 .fin) .stop))))))))))) (by kernel_rfl) ?_
  simp -implicitDefEqProofs (disch := first | omega | (simp only [St.set_n, St.up_n, List.length_cons, List.length_nil]; omega)) only [go_sem, Nat.reduceAdd, Nat.reduceMul, Nat.reduceSub, Int.reduceAdd, Int.reduceMul, Int.reduceSub, Int.reduceNeg, Int.reduceToNat, h3, h6, h8, h2, r0, r1, r2]
  refine callF_of (wo_do hm hD (by omega) fun k hk => ?_)
  simp -implicitDefEqProofs (disch := first | omega | (simp only [St.set_n, St.up_n, List.length_cons, List.length_nil]; omega)) only [go_sem, Nat.reduceAdd, Nat.reduceMul, Nat.reduceSub, Int.reduceAdd, Int.reduceMul, Int.reduceSub, Int.reduceNeg, Int.reduceToNat]
  exact hK k hk
theorem setL_D (S : WS) (k : Nat) (x : Int) : (S.setL k x).D = S.D := by unfold WS.setL; split <;> rfl
theorem doA_len (S : WS) (t p kind x : Int) : (doA S t p kind x).1.D.length = if (doA S t p kind x).2 then S.D.length + 1 else S.D.length := by
  unfold doA
  repeat' split
  all_goals simp_all [WS.put, setL_D]
def tot (px : Nat → Nat) : Nat → Nat
  | 0 => 0
  | n + 1 => tot px n + px n
theorem tot_upd (px : Nat → Nat) (t : Nat) : ∀ n, tot (updAt px t) n = if t < n then tot px n + 1 else tot px n
  | 0 => by simp [tot]
  | n + 1 => by
    rw [tot, tot, tot_upd px t n]
    unfold updAt
    by_cases h1 : n = t
    · subst h1; simp; omega
    · simp only [h1, if_false]
      by_cases h2 : t < n
      · have : t < n + 1 := by omega
        simp only [h2, this, if_true]; omega
      · have : ¬ t < n + 1 := by omega
        simp only [h2, this, if_false]
theorem tot_le (px : Nat → Nat) : ∀ n, (∀ t, t < n → px t ≤ 60) → tot px n ≤ 60 * n
  | 0, _ => by simp [tot]
  | n + 1, h => by
    have := tot_le px n fun t ht => h t (by omega)
    have := h n (by omega)
    rw [tot]; omega
def lenT (th : List (List (Int × Int))) (t : Nat) : Nat := (th.getD t []).length
def insT (th : List (List (Int × Int))) (t p : Nat) : Int × Int := (th.getD t []).getD p (0, 0)
structure OkW (th : List (List (Int × Int))) (w : WS) (px : Nat → Nat) : Prop where
  d : w.D.length = tot px th.length
  l : ∀ t, t < th.length → px t ≤ lenT th t
structure Sm (th : List (List (Int × Int))) : Prop where
  n : th.length ≤ 10
  l : ∀ t, t < th.length → lenT th t ≤ 60
theorem OkW.dl {th : List (List (Int × Int))} {w : WS} {px : Nat → Nat} (h : OkW th w px) (hs : Sm th) : w.D.length ≤ 600 := by
  have h1 := tot_le px th.length fun t ht => by have := h.l t ht; have := hs.l t ht; omega
  have := h.d
  have := hs.n
  omega
def actW (th : List (List (Int × Int))) (w : WS) (t p : Nat) : WS × Bool := doA w t p (insT th t p).1 (insT th t p).2
theorem OkW.step {th : List (List (Int × Int))} {w : WS} {px : Nat → Nat} {t : Nat} (h : OkW th w px) (ht : t < th.length) (hp : px t < lenT th t) : OkW th (actW th w t (px t)).1 (if (actW th w t (px t)).2 then updAt px t else px) := by
  unfold actW
  refine ⟨?_, fun u hu => ?_⟩
  · rw [doA_len]
    have h1 := h.d
    split
    · rw [tot_upd]; simp only [ht, if_true]; omega
    · exact h1
  · split
    · unfold updAt
      split
      · rename_i e; subst e; omega
      · exact h.l u hu
    · exact h.l u hu
/-- What the closures need: their boxes. -/
structure Cls (B : World) (q : Nat) (th : List (List (Int × Int))) (Bx : Nat → HP → Prop) (fs : Nat → List Value) : Prop where
  len : ∀ t, (fs t).length = lenT th t
  cl : ∀ (t p : Nat) (u : Value), (fs t)[p]? = some u → ∃ x3 b6 b8 x2 tv, u = clV x3 b6 b8 x2 ∧ RdI Bx B tv t p (insT th t p) ∧ Bx x3 (.raw (.cells #[.pointer (some ⟨q, 0, none⟩)] 79 (0, 0))) ∧ Bx b6 (.raw (.cells #[.int .i64 t] 3 (0, 0))) ∧ Bx b8 (.raw (.cells #[.int .i64 p] 3 (0, 0))) ∧ Bx x2 (.raw (.cells #[tv] 77 (0, 0)))
  raw : ∀ c y, Bx c y → ∃ v ty, y = .raw (.cells v ty (0, 0))
structure WIs (q : Nat) (Bx : Nat → HP → Prop) (G : Nat → Prop) (w : WS) (s : St) : Prop where
  at_ : s.m q = some (.comp (WoR w q))
  gq : ¬ G q
  bx : ∀ c y, Bx c y → s.m c = some y
  gb : ∀ c y, Bx c y → ¬ G c
def wSys (q : Nat) (th : List (List (Int × Int))) (Bx : Nat → HP → Prop) (fs : Nat → List Value) (hc : Cls B q th Bx fs) (hs : Sm th) : Cs B where
  W := WS
  n := th.length
  fns := fs
  act := actW th
  WI := WIs q Bx
  okx := OkW th
  okstep := fun h ht hp => h.step ht (by rw [hc.len] at hp; exact hp)
  small := fun t => by
    rw [hc.len]
    by_cases ht : t < th.length
    · have := hs.l t ht; omega
    · have : lenT th t = 0 := by unfold lenT; rw [List.getD_eq_getElem?_getD, List.getElem?_eq_none (by omega)]; rfl
      omega
  isf := fun t u hu => by
    obtain ⟨p, hp⟩ := List.getElem?_of_mem hu
    obtain ⟨_, _, _, _, _, rfl, _⟩ := hc.cl t p u hp
    exact ⟨rfl, .inr ⟨_, _, _, rfl⟩⟩
  fresh := fun h hq _ => ⟨h.at_, fun hg => hg.elim h.gq fun e => (by have := h.at_; rw [e, hq] at this; cases this), h.bx, fun c y hb hg => hg.elim (h.gb c y hb) fun e => by have := h.bx c y hb; rw [e, hq] at this; cases this⟩
  weak := fun h hG => ⟨h.at_, fun hg => h.gq (hG _ hg), h.bx, fun c y hb hg => h.gb c y hb (hG _ hg)⟩
  stable := fun h hk _ => ⟨hk _ _ h.gq h.at_, h.gq, fun c y hb => hk _ _ (h.gb c y hb) (h.bx c y hb), h.gb⟩
  call := by
    intro G w s t px g c1 c2 hws h hok ht hg
    obtain ⟨x3, b6, b8, x2, tv, he, hv, h3, h6, h8, h2⟩ := hc.cl t _ _ hg
    cases he
    have hD := hok.dl hs
    have htn := hs.n
    refine cl_call h.at_ (by omega) (by omega) (h.bx _ _ h3) (h.bx _ _ h6) (h.bx _ _ h8) (h.bx _ _ h2) hv h.bx fun k hk => ?_
    have hne : ∀ c y, Bx c y → c ≠ q := fun c y hb e => by
      have h1 := h.bx c y hb
      obtain ⟨_, _, e2⟩ := hc.raw c y hb
      rw [e, h.at_, e2] at h1
      cases h1
    refine ⟨rfl, ⟨by simp -implicitDefEqProofs (disch := first | omega | (simp only [St.set_n, St.up_n, List.length_cons, List.length_nil]; omega)) only [go_sem, Nat.reduceAdd, Nat.reduceMul, Nat.reduceSub, Int.reduceAdd, Int.reduceMul, Int.reduceSub, Int.reduceNeg, Int.reduceToNat]; rfl, h.gq, fun c y hb => ?_, h.gb⟩, by simp only [St.up_n]; omega, fun c y hc' hx' => ?_⟩
    · have h1 := hne c y hb
      have h5 := h.bx c y hb
      simp -implicitDefEqProofs (disch := first | omega | (simp only [St.set_n, St.up_n, List.length_cons, List.length_nil]; omega)) only [go_sem, Nat.reduceAdd, Nat.reduceMul, Nat.reduceSub, Int.reduceAdd, Int.reduceMul, Int.reduceSub, Int.reduceNeg, Int.reduceToNat, h5]
    · have h1 : c ≠ q := fun e => h.gq (e ▸ hc')
      simp -implicitDefEqProofs (disch := first | omega | (simp only [St.set_n, St.up_n, List.length_cons, List.length_nil]; omega)) only [go_sem, Nat.reduceAdd, Nat.reduceMul, Nat.reduceSub, Int.reduceAdd, Int.reduceMul, Int.reduceSub, Int.reduceNeg, Int.reduceToNat, hx']
end
end Go.Proofs.Ytgcojbgkenndhaa
