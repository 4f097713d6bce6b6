import Derived.Test.YtmohokeeglnliaaDoorSxW1
import Derived.Test.YtmohokeeglnliaaDoorSxF4
/-
  The walks of this seat's functions, second part: what is told of two gauges, and of one, or a panic.
-/
namespace Go.Proofs.YtmohokeeglnliaaDoor.Sx
open Go Go.Proofs
set_option maxRecDepth 100000
set_option linter.unusedSimpArgs false
set_option linter.unusedVariables false

def noNum : V := .iface 82 (.agg [])
def sNumber2 : Spec := fun args h nx K => match args with
  | [.int .u64 x] => (isN x.toNat = true → K (.pan (.iface 82 (.agg []))) h nx) ∧ (isN x.toNat = false → K (.ret (.flt .f64 x.toNat)) h nx)
  | _ => False
theorem specOK_mono {P : Program} {f : Nat} {s s' : Spec} (h : SpecOK P f s) (k : ∀ args h nx K, s' args h nx K → s args h nx K) : SpecOK P f s' :=
  fun c hc args hp nx K hs w xs hr hv => h c hc args hp nx K (k args hp nx K hs) w xs hr hv
theorem sNumber2_ok : SpecOK Tryd.prog 49 sNumber2 := by
  refine specOK_mono sNumber_ok fun args h nx K hs => ?_
  unfold sNumber2 at hs
  unfold sNumber
  split at hs
  · rename_i x
    show K (numO _) h nx
    unfold numO
    cases e : isN x.toNat with
    | true => exact hs.1 e
    | false => exact hs.2 e
  · exact hs.elim

/-- What is told: a number or a panic. -/
def tellO (p : Bool) (v : V) : Out := match p with | true => .pan (.iface 82 (.agg [])) | false => .ret v
theorem tell_t {p : Bool} {v : V} (h : p = true) : Out.pan (.iface 82 (.agg [])) = tellO p v := by subst h; rfl
theorem tell_f {p : Bool} {v u : V} (h : p = false) (k : u = v) : Out.ret u = tellO p v := by subst h k; rfl

def SPM : SpT := [(49, sNumber2), (46, sBits)]
theorem spm : ∀ p ∈ SPM, SpecOK Tryd.prog p.1 p.2 := consSP sNumber2_ok (consSP sBits_ok noSP)
def hM (p q : Addr) (a b : Int) : Hp := [(0, .ro (some p) 1 1 fun _ _ => .int .u64 a), (1, .ro (some q) 1 1 fun _ _ => .int .u64 b)]

theorem tellM (p q : Addr) (a b : Int) (c : Cx) (hc : c.P = Tryd.prog) :
    vc ⟨c, Tryd.f64, T, SPM, fun o _ _ => o = tellO (isN a.toNat || isN b.toNat) (.int .u64 (meanV a.toNat b.toNat))⟩ 100 [.code (Tryd.f64.body.getD .skip)] (argsS [.ptr 0 0 0, .ptr 1 0 0] 0) (hM p q a b) 2 := by
  refine W_plan (mkE hc T_ok spm) 2 0 (.all (.cons 0 (.all (.cons 1 (.all (.cons 2 (.all (.cons 3 (.all (.cons 4 (.all (.cons 5 (.all (.cons 6 (.all (.cons 7 (.done) (.nil))) (.nil))) (.cons 6 (.all (.cons 5 (.all (.cons 7 (.done) (.nil))) (.nil))) (.nil)))) (.nil))) (.nil))) (.cons 3 (.all (.cons 2 (.all (.cons 4 (.all (.cons 5 (.all (.cons 6 (.all (.cons 7 (.done) (.nil))) (.nil))) (.cons 6 (.all (.cons 5 (.all (.cons 7 (.done) (.nil))) (.nil))) (.nil)))) (.nil))) (.cons 4 (.all (.cons 2 (.all (.cons 5 (.all (.cons 6 (.all (.cons 7 (.done) (.nil))) (.nil))) (.cons 6 (.all (.cons 5 (.all (.cons 7 (.done) (.nil))) (.nil))) (.nil)))) (.cons 5 (.all (.cons 2 (.all (.cons 6 (.all (.cons 7 (.done) (.nil))) (.nil))) (.nil))) (.nil)))) (.nil)))) (.nil)))) (.cons 3 (.all (.cons 1 (.all (.cons 2 (.all (.cons 4 (.all (.cons 5 (.all (.cons 6 (.all (.cons 7 (.done) (.nil))) (.nil))) (.cons 6 (.all (.cons 5 (.all (.cons 7 (.done) (.nil))) (.nil))) (.nil)))) (.nil))) (.cons 4 (.all (.cons 2 (.all (.cons 5 (.all (.cons 6 (.all (.cons 7 (.done) (.nil))) (.nil))) (.cons 6 (.all (.cons 5 (.all (.cons 7 (.done) (.nil))) (.nil))) (.nil)))) (.cons 5 (.all (.cons 2 (.all (.cons 6 (.all (.cons 7 (.done) (.nil))) (.nil))) (.nil))) (.nil)))) (.nil)))) (.nil))) (.nil)))) (.cons 3 (.all (.cons 0 (.all (.cons 1 (.all (.cons 2 (.all (.cons 4 (.all (.cons 5 (.all (.cons 6 (.all (.cons 7 (.done) (.nil))) (.nil))) (.cons 6 (.all (.cons 5 (.all (.cons 7 (.done) (.nil))) (.nil))) (.nil)))) (.nil))) (.cons 4 (.all (.cons 2 (.all (.cons 5 (.all (.cons 6 (.all (.cons 7 (.done) (.nil))) (.nil))) (.cons 6 (.all (.cons 5 (.all (.cons 7 (.done) (.nil))) (.nil))) (.nil)))) (.cons 5 (.all (.cons 2 (.all (.cons 6 (.all (.cons 7 (.done) (.nil))) (.nil))) (.nil))) (.nil)))) (.nil)))) (.nil))) (.nil))) (.nil)))) (by rw [hc]; exact mix) (by kernel_rfl) 100 ?_
  repeat' (first
    | exact trivial
    | refine ⟨⟨trivial, ?_⟩, ?_⟩
    | exact tell_t (by simp_all)
    | refine ⟨fun e => ?_, fun e => ?_⟩
    | (intro r hr; obtain rfl := half_of (by assumption) hr)
    | (intro r hr
       refine tell_f (by simp_all) ?_
       have hr2 := FRes_canon (by simp) hr
       simp_all [wrapRes, meanV]))

def SPQ : SpT := [(49, sNumber2)]
theorem spq : ∀ p ∈ SPQ, SpecOK Tryd.prog p.1 p.2 := consSP sNumber2_ok noSP
theorem tellP (p : Addr) (a : Int) (c : Cx) (hc : c.P = Tryd.prog) :
    vc ⟨c, Tryd.f48, T, SPQ, fun o _ _ => o = tellO (isN a.toNat) (.int .i64 (percV a.toNat))⟩ 100 [.code (Tryd.f48.body.getD .skip)] (argsS [.ptr 0 0 0] 0) [(0, .ro (some p) 1 1 fun _ _ => .int .u64 a)] 1 := by
  have step : ∀ e : isN a.toNat = false, ¬ (fOrd (cent a.toNat) 0 == some .lt || fOrd (cent a.toNat) 0 == some .eq) = true → ¬ (fOrd (cent a.toNat) 4636737291354636288 == some .gt || fOrd (cent a.toNat) 4636737291354636288 == some .eq) = true →
      ∀ n, (∀ m, floatToIntVal .f64 (cent a.toNat) .i64 = some m → n = m) → n = percV a.toNat := by
    intro e h1 h2 n hn
    have hv := percV_val e
    have hd : percV a.toNat = (floatToIntVal .f64 (cent a.toNat) .i64).getD 0 := by
      unfold percV
      rw [if_neg (by simp [e]), if_neg h1, if_neg h2]
    have hc := cent_isN e
    rw [ord_val hc (by decide), sval_zero] at h1
    rw [ord_val hc isN_hundred, sval_hundred] at h2
    have g1 : 0 < sval (cent a.toNat) := by
      rcases Int.lt_trichotomy (sval (cent a.toNat)) 0 with q | q | q
      · exact absurd (by rw [cmpI_lt q]; rfl) h1
      · exact absurd (by rw [q, cmpI_self]; rfl) h1
      · exact q
    have g2 : sval (cent a.toNat) < 100 * (U : Int) := by
      rcases Int.lt_trichotomy (sval (cent a.toNat)) (100 * (U : Int)) with q | q | q
      · exact q
      · exact absurd (by rw [q, cmpI_self]; rfl) h2
      · exact absurd (by rw [cmpI_gt q]; rfl) h2
    have hf := fti hc g1 g2
    rw [hn _ hf, hd, hf]
    rfl
  refine ⟨fun e => tell_t e, fun e => ?_⟩
  intro r hr
  obtain rfl := cent_of e hr
  refine br_both (fun h1 => ?_) (fun h1 => ?_)
  · have h1 : (fOrd (cent a.toNat) 0 == some .lt || fOrd (cent a.toNat) 0 == some .eq) = true := h1
    refine tell_f e ?_
    show V.int .i64 0 = _
    unfold percV
    rw [if_neg (by simp [e]), if_pos h1]
  · have h1 : (fOrd (cent a.toNat) 0 == some .lt || fOrd (cent a.toNat) 0 == some .eq) = false := h1
    refine br_both (fun h2 => ?_) (fun h2 => ?_)
    · have h2 : (fOrd (cent a.toNat) 4636737291354636288 == some .gt || fOrd (cent a.toNat) 4636737291354636288 == some .eq) = true := h2
      refine tell_f e ?_
      show V.int .i64 100 = _
      unfold percV
      rw [if_neg (by simp [e]), if_neg (by simp [h1]), if_pos h2]
    · have h2 : (fOrd (cent a.toNat) 4636737291354636288 == some .gt || fOrd (cent a.toNat) 4636737291354636288 == some .eq) = false := h2
      intro n hn
      have := step e (by simp [h1]) (by simp [h2]) n hn
      refine tell_f e ?_
      rw [this]
      rfl
end Go.Proofs.YtmohokeeglnliaaDoor.Sx
