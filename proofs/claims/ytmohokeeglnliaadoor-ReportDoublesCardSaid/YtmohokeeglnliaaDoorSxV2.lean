import Derived.Test.YtmohokeeglnliaaDoorSxV1
import Derived.Test.YtmohokeeglnliaaDoorSxSh
/-
  The walks of this seat's functions: numbers as text, lines.
-/
namespace Go.Proofs.YtmohokeeglnliaaDoor.Sx
open Go Go.Proofs Go.RowKit Go.Sort
set_option maxRecDepth 100000
set_option linter.unusedSimpArgs false
set_option linter.unusedVariables false

def itoaB (n : Int) : ByteArray := ⟨(Lib.itoa n).toArray⟩
def joinB (xs : List ByteArray) (sep : ByteArray) : ByteArray := ⟨(Lib.join (xs.map (·.data.toList)) sep.data.toList).toArray⟩

theorem tab_is {c : Cx} {h : Hp} {w : World} (hc : c.P = Tryd.prog) (hr : Rel c h w) : Lib.TabIs Tryd.prog w "internal/strconv.uint64pow10" .u64 Lib.pow10Tab := by
  have := hr.tabs.at hr.fr _ (show ("internal/strconv.uint64pow10", _) ∈ seatTabs from List.mem_singleton.2 rfl)
  rw [hc] at this
  exact this

def sItoa : Spec := fun args h nx K => match args with
  | [.int .i64 n] => (-9223372036854775808 ≤ n ∧ n ≤ 9223372036854775807) ∧ K (.ret (.str (itoaB n))) h nx
  | _ => False
theorem fr_grow {P : Program} {w : World} (k : Nat) (os : Array Obj) : Fr (quiet P w) (grow (w.drewN k) os) := by
  refine ⟨rfl, rfl, rfl, ?_, fun i hi _ => ?_⟩
  · show w.heap.size ≤ (w.heap ++ os).size
    simp
  · show (w.heap ++ os)[i]? = w.heap[i]?
    exact Array.getElem?_append_left hi
theorem fr_below {P : Program} {w w' : World} (h : Below w.heap.size w w') : Fr (quiet P w) w' := ⟨h.os, h.tape, h.output, h.size, fun k hk _ => h.block k hk⟩

theorem sItoa_ok : SpecOK Tryd.prog 31 sItoa := by
  intro c hc args h nx K hs w xs hr hv
  unfold sItoa at hs
  split at hs
  · rename_i n
    obtain ⟨⟨h0, h1⟩, hs⟩ := hs
    obtain ⟨v0, vs, rfl, rfl, rfl⟩ := hv
    refine .inl ⟨callFunc_enter Tryd.func31 rfl rfl _ _, ?_⟩
    refine (Tryd.strconv_Itoa n h0 h1 w (tab_is hc hr)).mono ?_
    rintro e w' ⟨rfl, k, os, rfl⟩
    exact ⟨_, h, nx, hs, hr.after (fr_grow (P := Tryd.prog) k os), Ext.refl h, _, rfl, rfl⟩
  · exact hs.elim

def sJoin : Spec := fun args h nx K => match args with
  | [.slice t 0 n m, .str sep] => ∃ (xs : List ByteArray) (b : Nat) (g : Nat → Nat → V) (ty : TypeId), fd t h = .blk b n 1 g ty ∧ xs.length = n ∧ n ≤ m ∧ n ≤ 140737488355328 ∧ (∀ j x, xs[j]? = some x → g j 0 = .str x) ∧ (joinB xs sep).size ≤ 140737488355328 ∧ K (.ret (.str (joinB xs sep))) h nx
  | _ => False
theorem sJoin_ok : SpecOK Tryd.prog 29 sJoin := by
  intro c hc args h nx K hs w xs hr hv
  unfold sJoin at hs
  split at hs
  · rename_i t n m sep
    obtain ⟨ss, b, g, ty, hfd, rfl, hnm, hn, hg, hsz, hk⟩ := hs
    obtain ⟨v0, vs, rfl, rv, v1, vs', rfl, rfl, rfl⟩ := hv
    obtain ⟨base, sz, hrf, rfl, _⟩ := rv
    rw [hfd] at hrf
    injection hrf with hrf
    injection hrf with hb hsz'
    subst hb hsz'
    have H := hr.holds t
    rw [hfd] at H
    obtain ⟨⟨cs, c1, c2, c3⟩, _⟩ := H
    have hlt : b < w.heap.size := hr.lt hfd
    refine .inl ⟨callFunc_enter Tryd.func29 rfl rfl _ _, ?_⟩
    have := Tryd.strings_Join b 0 m ss sep w ?_ hlt hn hnm (by simpa [joinB, ByteArray.size] using hsz)
    · refine this.mono ?_
      rintro e w' ⟨rfl, hbel⟩
      exact ⟨_, h, nx, hk, hr.after (fr_below (P := Tryd.prog) hbel), Ext.refl h, _, rfl, rfl⟩
    · intro j x hx
      have hj : j < ss.length := (List.getElem?_eq_some_iff.1 hx).1
      obtain ⟨y, hy, ry⟩ := c3 j 0 hj (by omega)
      rw [hg j x hx] at ry
      obtain rfl := ry
      simp only [World.cell?, c1]
      simpa using hy
  · exact hs.elim

/-- A part, as it is told. -/
def partS (g n : Int) : ByteArray := if isN g.toNat then ⟨#[110, 111, 110, 101]⟩ else itoaB n ++ ⟨#[37]⟩
theorem decDigits_len : ∀ (k u : Nat), u < 10 ^ (k + 1) → (Lib.decDigits u).length ≤ k + 1
  | 0, u, h => by rw [Lib.decDigits, dif_pos (by simpa using h)]; simp
  | k + 1, u, h => by
    rw [Lib.decDigits]
    split
    · simp
    · have := decDigits_len k (u / 10) (by rw [Nat.pow_succ] at h; omega)
      simp
      omega
theorem itoa_len {n : Int} (h : -9223372036854775808 ≤ n ∧ n ≤ 9223372036854775807) : (itoaB n).size ≤ 20 := by
  show (Lib.itoa n).toArray.size ≤ 20
  unfold Lib.itoa
  split
  · have := decDigits_len 18 n.natAbs (by omega)
    simp; omega
  · have := decDigits_len 18 n.toNat (by omega)
    simp; omega
def rng (n : Int) : Prop := -9223372036854775808 ≤ n ∧ n ≤ 9223372036854775807
theorem ba_app (a b : ByteArray) : (a ++ b).size = a.size + b.size := by simp
theorem part_len {g n : Int} (h : rng n) : (partS g n).size ≤ 21 := by
  unfold partS
  split
  · decide
  · have := itoa_len h
    rw [ba_app]
    show _ + 1 ≤ 21
    omega

def sPart : Spec := fun args h nx K => match args with
  | [.int .u64 g, .int .i64 n] => rng n ∧ K (.ret (.str (partS g n))) h nx
  | _ => False
theorem outS {a b : ByteArray} (h : a = b) : Out.ret (.str a) = Out.ret (.str b) := by rw [h]
theorem sPart_ok : SpecOK Tryd.prog 30 sPart := by
  refine specOK_pure (fn := Tryd.f30) rfl rfl rfl T_ok (SP := [(50, sFrom), (31, sItoa)]) (consSP sFrom_ok (consSP sItoa_ok noSP)) [] trivial 100 _ ?_
  intro args h nx K hs
  unfold sPart at hs
  split at hs
  · rename_i g n
    obtain ⟨hn, hk⟩ := hs
    refine ⟨trivial, by repeat constructor, by simp [Tryd.f30], fun o => o = .ret (.str (partS g n)), ?_, ?_⟩
    · rintro o rfl; exact ⟨trivial, hk⟩
    intro c hc
    clear hk
    refine br_both (fun e => ?_) (fun e => ?_)
    · have e : isN g.toNat = true := (neq_nan _).symm.trans e
      exact outS (by rw [partS, if_pos e])
    · have e : isN g.toNat = false := (neq_nan _).symm.trans e
      refine ⟨hn, ?_⟩
      refine ⟨?_, fun s hs => ?_⟩
      · have := itoa_len hn
        show (itoaB n).size + 1 ≤ _
        omega
      · exact outS (by rw [hs, partS, e]; rfl)
  · exact hs.elim

/-- A report's line. -/
def lineS (g0 g1 n3 n4 n5 : Int) : ByteArray := joinB [⟨#[104, 105, 116]⟩, partS g0 n3, ⟨#[117, 115, 101]⟩, partS g1 n4, ⟨#[108, 111, 115, 116]⟩, itoaB n5 ++ ⟨#[37]⟩] ⟨#[32]⟩
theorem line_len {g0 g1 n3 n4 n5 : Int} (h3 : rng n3) (h4 : rng n4) (h5 : rng n5) : (lineS g0 g1 n3 n4 n5).size ≤ 1000 := by
  have a := part_len (g := g0) h3
  have b := part_len (g := g1) h4
  have c := itoa_len h5
  show (Lib.join _ _).toArray.size ≤ 1000
  unfold Lib.join
  have e : ∀ x : ByteArray, x.data.toList.length = x.size := fun x => rfl
  simp only [List.map_cons, List.map_nil, List.intercalate_cons_cons, List.intercalate_singleton, List.size_toArray, List.length_append, e, ba_app]
  have e1 : (⟨#[37]⟩ : ByteArray).size = 1 := rfl
  simp only [e1]
  simp
  omega
def sLine : Spec := fun args h nx K => match args with
  | [.agg [.int .u64 g0, .int .u64 g1, .int .u64 g2, .int .i64 n3, .int .i64 n4, .int .i64 n5]] => rng n3 ∧ rng n4 ∧ rng n5 ∧ ∀ s, s = lineS g0 g1 n3 n4 n5 → K (.ret (.str s)) h nx
  | _ => False
def SPL : SpT := [(30, sPart), (31, sItoa), (29, sJoin)]
theorem spl' : ∀ p ∈ SPL, SpecOK Tryd.prog p.1 p.2 := consSP sPart_ok (consSP sItoa_ok (consSP sJoin_ok noSP))
theorem sLine_ok : SpecOK Tryd.prog 11 sLine := by
  refine specOK_pure (fn := Tryd.f11) rfl rfl rfl T_ok (SP := SPL) spl' [] trivial 300 _ ?_
  intro args h nx K hs
  unfold sLine at hs
  split at hs
  · rename_i g0 g1 g2 n3 n4 n5
    obtain ⟨h3, h4, h5, hk⟩ := hs
    refine ⟨trivial, by repeat constructor, by simp [Tryd.f11], fun o => o = .ret (.str (lineS g0 g1 n3 n4 n5)), ?_, ?_⟩
    · rintro o rfl; exact ⟨trivial, hk _ rfl⟩
    intro c hc
    clear hk
    intro b0
    refine W_plan (mkE hc T_ok spl') 1 14 (lineP 0 14 (oneP 14 (oneP 15 (oneP 16 .done)))) (by rw [hc]; exact mix) (by kernel_rfl) 200 ?_
    have hl := itoa_len h5
    repeat' (first | refine ⟨_, ⟨rfl, rfl⟩, ?_⟩ | refine ⟨_, ⟨h3, rfl, rfl⟩, ?_⟩ | refine ⟨_, ⟨h4, rfl, rfl⟩, ?_⟩ | refine ⟨_, ⟨h5, rfl, rfl⟩, ?_⟩ | refine ⟨_, ⟨(show (itoaB n5).size + 1 ≤ _ by omega), fun s hs => ⟨congrArg V.str hs, rfl⟩⟩, ?_⟩ | fail)
    refine ⟨⟨trivial, fun b1 => ?_⟩, trivial⟩
    have hL := line_len (g0 := g0) (g1 := g1) h3 h4 h5
    refine ⟨⟨trivial, [⟨#[104, 105, 116]⟩, partS g0 n3, ⟨#[117, 115, 101]⟩, partS g1 n4, ⟨#[108, 111, 115, 116]⟩, itoaB n5 ++ ⟨#[37]⟩], b1, _, _, rfl, ?_, ?_, ?_, ?_, ?_, ?_⟩, trivial⟩
    · rfl
    · exact Nat.le_refl 6
    · exact Nat.le_of_ble_eq_true rfl
    · intro j x hx
      match j with
      | 0 => injection hx with hx; subst hx; rfl
      | 1 => injection hx with hx; subst hx; rfl
      | 2 => injection hx with hx; subst hx; rfl
      | 3 => injection hx with hx; subst hx; rfl
      | 4 => injection hx with hx; subst hx; rfl
      | 5 => injection hx with hx; subst hx; rfl
      | j + 6 => simp at hx
    · exact Nat.le_trans hL (Nat.le_of_ble_eq_true rfl)
    refine ⟨⟨trivial, ?_⟩, trivial⟩
    exact outS rfl
  · exact hs.elim
end Go.Proofs.YtmohokeeglnliaaDoor.Sx
