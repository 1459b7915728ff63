/- 'CellNone': the walk; and the arguments of both laws. -/
import Derived.Test.YtbjgoajdfdonfaaPlays04
import Derived.Test.YtbjgoajdfdonfaaRows
namespace Go.Proofs.Ytbjgoajdfdonfaa
set_option linter.unusedSimpArgs false
set_option linter.unusedVariables false
open Go Go.RowKit Go.WideShapes
section
variable {B : World} {σ : St} {K : Value → St → Prop}

theorem none04 {l : List (Int × Int × Int)} {v : Value} {t : ByteArray} (hl : SlR B 3 RAcc l v) (hK : ∀ k, σ.n ≤ k → K (.bool true) (σ.up k)) : Fn Try.prog B 4 #[v, .string t] σ K := by
  obtain ⟨a, cap, rfl, hlc, hcm, hnil, hat⟩ := hl
  refine Fn.of' is4 (by simp) fun hwf => ?_
  have hB := hwf.1
  simp only [b4, Try.f4, Option.getD_some]
  simp (disch := first | omega | ((try simp only [St.set_n, St.up_n, List.length_cons, List.length_nil]); omega)) only [go_sem, Nat.reduceAdd, Nat.reduceMul, Nat.reduceSub, Int.reduceAdd, Int.reduceMul, Int.reduceSub, Int.reduceNeg, Int.reduceToNat]
  refine callF_of (awake04 fun k hk => ?_)
  simp (disch := first | omega | ((try simp only [St.set_n, St.up_n, List.length_cons, List.length_nil]); omega)) only [go_sem, Nat.reduceAdd, Nat.reduceMul, Nat.reduceSub, Int.reduceAdd, Int.reduceMul, Int.reduceSub, Int.reduceNeg, Int.reduceToNat]
  refine loop_rule' (fun m e s => ∃ (i : Nat), m = l.length - i ∧ i ≤ l.length ∧ e.v 0 = .slice a l.length cap ∧ e.v 1 = .string t ∧ e.v 5 = .pointer none ∧ e.v 6 = .pointer (some ⟨k, 0, none⟩) ∧ e.v 7 = .int .i64 i ∧ e.d = [] ∧
    s.m k = some (.raw (.cells #[.string ⟨#[]⟩, .int .i64 0] 38 (0, 0))) ∧ (∀ c x, c < σ.n → σ.m c = some x → s.m c = some x) ∧ k ≤ s.n) l.length 0 (fun e s => e.v 1 = .string t ∧ e.v 6 = .pointer (some ⟨k, 0, none⟩) ∧ e.d = [] ∧ s.m k = some (.raw (.cells #[.string ⟨#[]⟩, .int .i64 0] 38 (0, 0))) ∧ (∀ c x, c < σ.n → σ.m c = some x → s.m c = some x) ∧ k ≤ s.n) ?_ ?_ ?_
  · refine ⟨0, by omega, by omega, ?_⟩
    simp (disch := first | omega | ((try simp only [St.set_n, St.up_n, List.length_cons, List.length_nil]); omega)) only [go_sem, Nat.reduceAdd, Nat.reduceMul, Nat.reduceSub, Int.reduceAdd, Int.reduceMul, Int.reduceSub, Int.reduceNeg, Int.reduceToNat]
    simp
    exact fun c x hc hx => by simp (disch := first | omega | ((try simp only [St.set_n, St.up_n, List.length_cons, List.length_nil]); omega)) only [go_sem, Nat.reduceAdd, Nat.reduceMul, Nat.reduceSub, Int.reduceAdd, Int.reduceMul, Int.reduceSub, Int.reduceNeg, Int.reduceToNat, hx]
  · rintro m e s hws ⟨i, hm, hi, h0, h1, h5, h6, h7, hd, hc, hσ, hks⟩
    simp (disch := first | omega | ((try simp only [St.set_n, St.up_n, List.length_cons, List.length_nil]); omega)) only [go_sem, Nat.reduceAdd, Nat.reduceMul, Nat.reduceSub, Int.reduceAdd, Int.reduceMul, Int.reduceSub, Int.reduceNeg, Int.reduceToNat, h0, h1, h5, h6, h7]
    by_cases hlt : (i : Int) < l.length ∧ (i : Int) < 300
    · obtain ⟨hlt, h3⟩ := hlt
      obtain ⟨⟨kd, old, x⟩, hacc⟩ : ∃ x, l[i]? = some x := ⟨l[i]'(by omega), List.getElem?_eq_getElem (by omega)⟩
      obtain ⟨b, o, cs, rfl, hb, hR, hsz, hcell⟩ := hat i _ hacc
      simp only [RAcc] at hR
      subst hR
      have c0 : B.cell? ⟨b, o + i * 3, none⟩ = _ := hcell 0 _ rfl
      have c1 := hcell 1 _ rfl
      have c2 := hcell 2 _ rfl
      have hbs := hws.low hb
      simp (disch := first | omega | ((try simp only [St.set_n, St.up_n, List.length_cons, List.length_nil]); omega)) only [go_sem, Nat.reduceAdd, Nat.reduceMul, Nat.reduceSub, Int.reduceAdd, Int.reduceMul, Int.reduceSub, Int.reduceNeg, Int.reduceToNat, h0, h1, h5, h6, h7, hlt, h3, hbs, hb, c0, c1, c2]
      refine callF_of (do_none fun j hj => ?_)
      simp (disch := first | omega | ((try simp only [St.set_n, St.up_n, List.length_cons, List.length_nil]); omega)) only [go_sem, Nat.reduceAdd, Nat.reduceMul, Nat.reduceSub, Int.reduceAdd, Int.reduceMul, Int.reduceSub, Int.reduceNeg, Int.reduceToNat, h0, h1, h5, h6, h7]
      refine callF_of (peekI_none ?_)
      simp (disch := first | omega | ((try simp only [St.set_n, St.up_n, List.length_cons, List.length_nil]); omega)) only [go_sem, Nat.reduceAdd, Nat.reduceMul, Nat.reduceSub, Int.reduceAdd, Int.reduceMul, Int.reduceSub, Int.reduceNeg, Int.reduceToNat, h0, h1, h5, h6, h7]
      refine callF_of (countI_none ?_)
      simp (disch := first | omega | ((try simp only [St.set_n, St.up_n, List.length_cons, List.length_nil]); omega)) only [go_sem, Nat.reduceAdd, Nat.reduceMul, Nat.reduceSub, Int.reduceAdd, Int.reduceMul, Int.reduceSub, Int.reduceNeg, Int.reduceToNat, h0, h1, h5, h6, h7]
      refine ⟨l.length - (i + 1), by omega, i + 1, rfl, by omega, ?_⟩
      simp (disch := first | omega | ((try simp only [St.set_n, St.up_n, List.length_cons, List.length_nil]); omega)) only [go_sem, Nat.reduceAdd, Nat.reduceMul, Nat.reduceSub, Int.reduceAdd, Int.reduceMul, Int.reduceSub, Int.reduceNeg, Int.reduceToNat, h0, h1, h5, h6, h7, hd, hc]
      simp only [Int.natCast_add, Int.cast_ofNat_Int, true_and]
      exact ⟨hσ, by omega⟩
    · by_cases hlt' : (i : Int) < l.length
      · have h3 : ¬ (i : Int) < 300 := fun h => hlt ⟨hlt', h⟩
        simp (disch := first | omega | ((try simp only [St.set_n, St.up_n, List.length_cons, List.length_nil]); omega)) only [go_sem, Nat.reduceAdd, Nat.reduceMul, Nat.reduceSub, Int.reduceAdd, Int.reduceMul, Int.reduceSub, Int.reduceNeg, Int.reduceToNat, h0, h1, h5, h6, h7, hlt', h3, hd]
        exact ⟨hc, hσ, hks⟩
      · simp (disch := first | omega | ((try simp only [St.set_n, St.up_n, List.length_cons, List.length_nil]); omega)) only [go_sem, Nat.reduceAdd, Nat.reduceMul, Nat.reduceSub, Int.reduceAdd, Int.reduceMul, Int.reduceSub, Int.reduceNeg, Int.reduceToNat, h0, h1, h5, h6, h7, hlt', hd]
        exact ⟨hc, hσ, hks⟩
  · rintro e s hws ⟨h1, h6, hd, hc, hσ, hks⟩
    simp (disch := first | omega | ((try simp only [St.set_n, St.up_n, List.length_cons, List.length_nil]); omega)) only [go_sem, Nat.reduceAdd, Nat.reduceMul, Nat.reduceSub, Int.reduceAdd, Int.reduceMul, Int.reduceSub, Int.reduceNeg, Int.reduceToNat, h1, h6]
    refine callF_of (peekS (x := ⟨#[]⟩) hc rfl ?_)
    simp (disch := first | omega | ((try simp only [St.set_n, St.up_n, List.length_cons, List.length_nil]); omega)) only [go_sem, Nat.reduceAdd, Nat.reduceMul, Nat.reduceSub, Int.reduceAdd, Int.reduceMul, Int.reduceSub, Int.reduceNeg, Int.reduceToNat, h1, h6]
    refine callF_of (countS hc rfl ?_)
    simp (disch := first | omega | ((try simp only [St.set_n, St.up_n, List.length_cons, List.length_nil]); omega)) only [go_sem, Nat.reduceAdd, Nat.reduceMul, Nat.reduceSub, Int.reduceAdd, Int.reduceMul, Int.reduceSub, Int.reduceNeg, Int.reduceToNat, h1, h6]
    refine callF_of (loadS (x := ⟨#[]⟩) hc rfl rfl fun j hj => ?_)
    unfold leftAs
    simp (disch := first | omega | ((try simp only [St.set_n, St.up_n, List.length_cons, List.length_nil]); omega)) only [go_sem, Nat.reduceAdd, Nat.reduceMul, Nat.reduceSub, Int.reduceAdd, Int.reduceMul, Int.reduceSub, Int.reduceNeg, Int.reduceToNat, h1, h6]
    refine callF_of (casS (c := #[.string ⟨#[]⟩, .int .i64 1]) (ty := 38) (x := ⟨#[]⟩) (n := 1) (by simp (disch := first | omega | ((try simp only [St.set_n, St.up_n, List.length_cons, List.length_nil]); omega)) only [go_sem, Nat.reduceAdd, Nat.reduceMul, Nat.reduceSub, Int.reduceAdd, Int.reduceMul, Int.reduceSub, Int.reduceNeg, Int.reduceToNat] <;> rfl) rfl rfl fun j2 hj2 => ?_)
    unfold leftAs
    simp (disch := first | omega | ((try simp only [St.set_n, St.up_n, List.length_cons, List.length_nil]); omega)) only [go_sem, Nat.reduceAdd, Nat.reduceMul, Nat.reduceSub, Int.reduceAdd, Int.reduceMul, Int.reduceSub, Int.reduceNeg, Int.reduceToNat, h1, h6]
    refine callF_of (swapS (c := #[.string t, .int .i64 2]) (ty := 38) (x := t) (n := 2) (by simp (disch := first | omega | ((try simp only [St.set_n, St.up_n, List.length_cons, List.length_nil]); omega)) only [go_sem, Nat.reduceAdd, Nat.reduceMul, Nat.reduceSub, Int.reduceAdd, Int.reduceMul, Int.reduceSub, Int.reduceNeg, Int.reduceToNat] <;> rfl) rfl rfl fun j3 hj3 => ?_)
    unfold leftAs
    simp (disch := first | omega | ((try simp only [St.set_n, St.up_n, List.length_cons, List.length_nil]); omega)) only [go_sem, Nat.reduceAdd, Nat.reduceMul, Nat.reduceSub, Int.reduceAdd, Int.reduceMul, Int.reduceSub, Int.reduceNeg, Int.reduceToNat, h1, h6]
    refine callF_of (peekS (c := #[.string ⟨#[120]⟩, .int .i64 3]) (ty := 38) (x := ⟨#[120]⟩) (by simp (disch := first | omega | ((try simp only [St.set_n, St.up_n, List.length_cons, List.length_nil]); omega)) only [go_sem, Nat.reduceAdd, Nat.reduceMul, Nat.reduceSub, Int.reduceAdd, Int.reduceMul, Int.reduceSub, Int.reduceNeg, Int.reduceToNat] <;> rfl) rfl ?_)
    simp (disch := first | omega | ((try simp only [St.set_n, St.up_n, List.length_cons, List.length_nil]); omega)) only [go_sem, Nat.reduceAdd, Nat.reduceMul, Nat.reduceSub, Int.reduceAdd, Int.reduceMul, Int.reduceSub, Int.reduceNeg, Int.reduceToNat, h1, h6]
    refine callF_of (countS (c := #[.string ⟨#[120]⟩, .int .i64 3]) (ty := 38) (by simp (disch := first | omega | ((try simp only [St.set_n, St.up_n, List.length_cons, List.length_nil]); omega)) only [go_sem, Nat.reduceAdd, Nat.reduceMul, Nat.reduceSub, Int.reduceAdd, Int.reduceMul, Int.reduceSub, Int.reduceNeg, Int.reduceToNat] <;> rfl) rfl ?_)
    simp (disch := first | omega | ((try simp only [St.set_n, St.up_n, List.length_cons, List.length_nil]); omega)) only [go_sem, Nat.reduceAdd, Nat.reduceMul, Nat.reduceSub, Int.reduceAdd, Int.reduceMul, Int.reduceSub, Int.reduceNeg, Int.reduceToNat, h1, h6, hd]
    refine ⟨_, To.same (fun d y h2 h3 => ?_) hwf, ?_⟩
    · have := hσ d y h2 h3
      simp (disch := first | omega | ((try simp only [St.set_n, St.up_n, List.length_cons, List.length_nil]); omega)) only [go_sem, Nat.reduceAdd, Nat.reduceMul, Nat.reduceSub, Int.reduceAdd, Int.reduceMul, Int.reduceSub, Int.reduceNeg, Int.reduceToNat, this]
    · exact hK _ (by (try simp only [St.up_n, St.set_n, leftAs] at *); omega)
end
end Go.Proofs.Ytbjgoajdfdonfaa
