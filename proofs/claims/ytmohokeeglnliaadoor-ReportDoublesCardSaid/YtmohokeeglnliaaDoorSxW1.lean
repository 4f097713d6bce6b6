import Derived.Test.YtmohokeeglnliaaDoorSxF1
import Derived.Test.YtmohokeeglnliaaDoorSxT
import Derived.Laws.Externs
/-
  The walks of this seat's functions, first part: words and floats, comparing, rates.
-/
namespace Go.Proofs.YtmohokeeglnliaaDoor.Sx
open Go Go.Proofs
set_option maxRecDepth 100000
set_option linter.unusedSimpArgs false
set_option linter.unusedVariables false

theorem mix : Tryd.prog.follows .mixedOrders = true := by kernel_rfl
theorem noSP {P : Program} : ∀ p ∈ ([] : SpT), SpecOK P p.1 p.2 := by intro p hp; cases hp
theorem consSP {P : Program} {f : Nat} {s : Spec} {l : SpT} (h : SpecOK P f s) (k : ∀ p ∈ l, SpecOK P p.1 p.2) : ∀ p ∈ (f, s) :: l, SpecOK P p.1 p.2 := by
  intro p hp
  rcases List.mem_cons.1 hp with rfl | hp
  · exact h
  · exact k p hp

def bnd (a : Int) : Prop := 0 ≤ a ∧ a ≤ 18446744073709551615

def sFrom : Spec := fun args h nx K => match args with
  | [.int .u64 x] => K (.ret (.flt .f64 x.toNat)) h nx
  | _ => False
theorem sFrom_ok : SpecOK Tryd.prog 50 sFrom := by
  intro c hc args h nx K hs w xs hr hv
  unfold sFrom at hs
  split at hs
  · rename_i x
    obtain ⟨v0, vs, rfl, rfl, rfl⟩ := hv
    refine .inr ⟨_, w, ?_, _, h, nx, hs, hr, Ext.refl h, _, rfl, rfl⟩
    rw [run_callFunc_extern Tryd.func50 (by kernel_rfl) (by kernel_rfl) (by kernel_rfl) (e := Go.Extern.MathFloatBits.float64frombits) (by kernel_rfl)]
    rfl
  · exact hs.elim
def sBits64 : Spec := fun args h nx K => match args with
  | [.flt .f64 b] => K (.ret (.int .u64 (b : Int))) h nx
  | _ => False
theorem sBits64_ok : SpecOK Tryd.prog 57 sBits64 := by
  intro c hc args h nx K hs w xs hr hv
  unfold sBits64 at hs
  split at hs
  · rename_i x
    obtain ⟨v0, vs, rfl, rfl, rfl⟩ := hv
    refine .inr ⟨_, w, ?_, _, h, nx, hs, hr, Ext.refl h, _, rfl, rfl⟩
    rw [run_callFunc_extern Tryd.func57 (by kernel_rfl) (by kernel_rfl) (by kernel_rfl) (e := Go.Extern.MathFloatBits.float64bits) (by kernel_rfl)]
    rfl
  · exact hs.elim

def sNaN : Spec := fun args h nx K => match args with
  | [.flt .f64 b] => K (.ret (.bool (isN b))) h nx
  | _ => False
theorem sNaN_ok : SpecOK Tryd.prog 58 sNaN := by
  refine specOK_pure (fn := Tryd.f58) rfl rfl rfl T_ok (SP := []) noSP [] trivial 100 _ ?_
  intro args h nx K hs
  unfold sNaN at hs
  split at hs
  · rename_i b
    refine ⟨trivial, by repeat constructor, by simp [Tryd.f58], fun o => o = .ret (.bool (isN b)), ?_, ?_⟩
    · rintro o rfl; exact ⟨trivial, hs⟩
    intro c hc
    exact outB (neq_nan b)
  · exact hs.elim
theorem sNaN2_ok : SpecOK Tryd.prog 65 sNaN := by
  refine specOK_pure (fn := Tryd.f65) rfl rfl rfl T_ok (SP := []) noSP [] trivial 100 _ ?_
  intro args h nx K hs
  unfold sNaN at hs
  split at hs
  · rename_i b
    refine ⟨trivial, by repeat constructor, by simp [Tryd.f65], fun o => o = .ret (.bool (isN b)), ?_, ?_⟩
    · rintro o rfl; exact ⟨trivial, hs⟩
    intro c hc
    exact outB (neq_nan b)
  · exact hs.elim

/-- What a gauge's number is: a number, or a panic. -/
def numO (x : Nat) : Out := match isN x with | true => .pan (.iface 82 (.agg [])) | false => .ret (.flt .f64 x)
def sNumber : Spec := fun args h nx K => match args with
  | [.int .u64 x] => K (numO x.toNat) h nx
  | _ => False
theorem sNumber_ok : SpecOK Tryd.prog 49 sNumber := by
  refine specOK_pure (fn := Tryd.f49) rfl rfl rfl T_ok (SP := [(50, sFrom), (58, sNaN)]) (consSP sFrom_ok (consSP sNaN_ok noSP)) [] trivial 100 _ ?_
  intro args h nx K hs
  unfold sNumber at hs
  split at hs
  · rename_i x
    refine ⟨trivial, by repeat constructor, by simp [Tryd.f49], fun o => o = numO x.toNat, ?_, ?_⟩
    · rintro o rfl; exact ⟨by unfold numO; cases isN x.toNat <;> repeat constructor, hs⟩
    intro c hc
    refine br_both (fun e => ?_) (fun e => ?_)
    · show Out.pan _ = numO _
      unfold numO; rw [e]
    · show Out.ret _ = numO _
      unfold numO; rw [e]; rfl
  · exact hs.elim

def sBits : Spec := fun args h nx K => match args with
  | [.flt .f64 b] => K (.ret (.int .u64 (if isN b then 9221120237041090561 else (b : Int)))) h nx
  | _ => False
theorem sBits_ok : SpecOK Tryd.prog 46 sBits := by
  refine specOK_pure (fn := Tryd.f46) rfl rfl rfl T_ok (SP := [(58, sNaN), (57, sBits64)]) (consSP sNaN_ok (consSP sBits64_ok noSP)) [] trivial 100 _ ?_
  intro args h nx K hs
  unfold sBits at hs
  split at hs
  · rename_i b
    refine ⟨trivial, by repeat constructor, by simp [Tryd.f46], fun o => o = .ret (.int .u64 (if isN b then 9221120237041090561 else (b : Int))), ?_, ?_⟩
    · rintro o rfl; exact ⟨trivial, hs⟩
    intro c hc
    refine br_both (fun e => ?_) (fun e => ?_)
    · exact outI (by rw [e]; rfl)
    · exact outI (by rw [e]; rfl)
  · exact hs.elim

def sIsNaN : Spec := fun args h nx K => match args with
  | [.int .u64 g] => bnd g ∧ K (.ret (.bool (isN g.toNat))) h nx
  | _ => False
theorem isN_int {g : Int} (h : bnd g) : isN g.toNat = decide (9218868437227405312 < g.tmod 9223372036854775808) := by
  obtain ⟨n, rfl⟩ := Int.eq_ofNat_of_zero_le h.1
  have e : (n : Int).tmod 9223372036854775808 = ((n % 9223372036854775808 : Nat) : Int) := rfl
  rw [e]
  cases q : isN (n : Int).toNat with
  | true => rw [isN_iff] at q; symm; simp only [Int.toNat_natCast] at q; exact decide_eq_true (by omega)
  | false => rw [isN_F] at q; symm; simp only [Int.toNat_natCast] at q; exact decide_eq_false (by omega)
theorem sIsNaN_ok : SpecOK Tryd.prog 22 sIsNaN := by
  refine specOK_pure (fn := Tryd.f22) rfl rfl rfl T_ok (SP := []) noSP [] trivial 100 _ ?_
  intro args h nx K hs
  unfold sIsNaN at hs
  split at hs
  · rename_i g
    obtain ⟨hg, hk⟩ := hs
    refine ⟨trivial, by repeat constructor, by simp [Tryd.f22], fun o => o = .ret (.bool (isN g.toNat)), ?_, ?_⟩
    · rintro o rfl; exact ⟨trivial, hk⟩
    intro c hc
    exact outB (isN_int hg).symm
  · exact hs.elim

def sPlain : Spec := fun args h nx K => match args with
  | [.flt .f64 b] => b < 18446744073709551616 ∧ K (.ret (.int .u64 (if isN b then 9221120237041090561 else (b : Int)))) h nx
  | _ => False
theorem sPlain_ok : SpecOK Tryd.prog 44 sPlain := by
  refine specOK_pure (fn := Tryd.f44) rfl rfl rfl T_ok (SP := [(57, sBits64), (22, sIsNaN)]) (consSP sBits64_ok (consSP sIsNaN_ok noSP)) [] trivial 100 _ ?_
  intro args h nx K hs
  unfold sPlain at hs
  split at hs
  · rename_i b
    obtain ⟨hb, hk⟩ := hs
    refine ⟨trivial, by repeat constructor, by simp [Tryd.f44], fun o => o = .ret (.int .u64 (if isN b then 9221120237041090561 else (b : Int))), ?_, ?_⟩
    · rintro o rfl; exact ⟨trivial, hk⟩
    intro c hc
    refine ⟨⟨by omega, by omega⟩, ?_⟩
    refine br_both (fun e => ?_) (fun e => ?_)
    · have e : isN b = true := e
      exact outI (by rw [e]; rfl)
    · have e : isN b = false := e
      exact outI (by rw [e]; rfl)
  · exact hs.elim

def sCompare : Spec := fun args h nx K => match args with
  | [.flt .f64 a, .flt .f64 b] => K (.ret (.int .i64 (cmpV a b))) h nx
  | _ => False
theorem sCompare_ok : SpecOK Tryd.prog 56 sCompare := by
  refine specOK_pure (fn := Tryd.f56) rfl rfl rfl T_ok (SP := [(65, sNaN)]) (consSP sNaN2_ok noSP) [] trivial 100 _ ?_
  intro args h nx K hs
  unfold sCompare at hs
  split at hs
  · rename_i a b
    refine ⟨trivial, by repeat constructor, by simp [Tryd.f56], fun o => o = .ret (.int .i64 (cmpV a b)), ?_, ?_⟩
    · rintro o rfl; exact ⟨trivial, hs⟩
    intro c hc
    refine br_both (fun e => ?_) (fun e => ?_)
    · refine br_both (fun e' => ?_) (fun e' => ?_)
      · exact outI (by simp [cmpV, e, e'])
      · exact outI (by simp [cmpV, e, e'])
    · refine br_both (fun e' => ?_) (fun e' => ?_)
      · exact outI (by simp [cmpV, e, e'])
      · refine br_both (fun e2 => ?_) (fun e2 => ?_)
        · have e2 : (fOrd a b == some .lt) = true := e2
          exact outI (by simp at e2; simp [cmpV, e, e', e2])
        · have e2 : (fOrd a b == some .lt) = false := e2
          refine br_both (fun e3 => ?_) (fun e3 => ?_)
          · have e3 : (fOrd a b == some .gt) = true := e3
            exact outI (by simp at e2 e3; simp [cmpV, e, e', e2, e3])
          · have e3 : (fOrd a b == some .gt) = false := e3
            exact outI (by simp at e2 e3; simp [cmpV, e, e', e2, e3])
  · exact hs.elim

def sCmp : Spec := fun args h nx K => match args with
  | [.int .u64 a, .int .u64 b] => K (.ret (.int .i64 (cmpV a.toNat b.toNat))) h nx
  | _ => False
theorem sCmp_ok : SpecOK Tryd.prog 42 sCmp := by
  refine specOK_pure (fn := Tryd.f42) rfl rfl rfl T_ok (SP := [(50, sFrom), (56, sCompare)]) (consSP sFrom_ok (consSP sCompare_ok noSP)) [] trivial 100 _ ?_
  intro args h nx K hs
  unfold sCmp at hs
  split at hs
  · rename_i a b
    refine ⟨trivial, by repeat constructor, by simp [Tryd.f42], fun o => o = .ret (.int .i64 (cmpV a.toNat b.toNat)), ?_, ?_⟩
    · rintro o rfl; exact ⟨trivial, hs⟩
    intro c hc
    rfl
  · exact hs.elim

/-- A part by the whole. -/
def rateV (a b : Int) : Int := canon (floatBits .quo .f64 (FloatKind.nearest .f64 a) (FloatKind.nearest .f64 b))
def sRate : Spec := fun args h nx K => match args with
  | [.int .u64 a, .int .u64 b] => K (.ret (.int .u64 (rateV a b))) h nx
  | _ => False
theorem sRate_ok : SpecOK Tryd.prog 25 sRate := by
  refine specOK_pure (fn := Tryd.f25) rfl rfl rfl T_ok (SP := [(46, sBits)]) (consSP sBits_ok noSP) [] trivial 100 _ ?_
  intro args h nx K hs
  unfold sRate at hs
  split at hs
  · rename_i a b
    refine ⟨trivial, by repeat constructor, by simp [Tryd.f25], fun o => o = .ret (.int .u64 (rateV a b)), ?_, ?_⟩
    · rintro o rfl; exact ⟨trivial, hs⟩
    intro c hc
    intro r hr
    exact outI (FRes_canon (by simp) hr)
  · exact hs.elim

end Go.Proofs.YtmohokeeglnliaaDoor.Sx
