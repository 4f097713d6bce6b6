import Derived.Test.YtmohokeeglnliaaDoorSxW6
/-
  The walks of this seat's functions, eighth part: the document's order, mean and percent.
-/
namespace Go.Proofs.YtmohokeeglnliaaDoor.Sx
open Go Go.Proofs
set_option maxRecDepth 100000
set_option linter.unusedSimpArgs false
set_option linter.unusedVariables false

/-- The document's key. -/
def keyV (g : Int) : Int × Int :=
  if isN g.toNat then (0, 0) else if g.tmod 9223372036854775808 = 0 then (2, 0) else if 9223372036854775808 ≤ g then (1, IntKind.u64.wrap (9223372036854775808 - g.tmod 9223372036854775808)) else (3, g.tmod 9223372036854775808)
def sKey : Spec := fun args h nx K => match args with
  | [.int .u64 g] => bnd g ∧ K (.ret (.tup [.int .i64 (keyV g).1, .int .u64 (keyV g).2])) h nx
  | _ => False
theorem sKey_ok : SpecOK Tryd.prog 45 sKey := by
  refine specOK_pure (fn := Tryd.f45) rfl rfl rfl T_ok (SP := [(22, sIsNaN)]) (consSP sIsNaN_ok noSP) [] trivial 300 _ ?_
  intro args h nx K hs
  unfold sKey at hs
  split at hs
  · rename_i g
    obtain ⟨hg, hk⟩ := hs
    refine ⟨trivial, by repeat constructor, by simp [Tryd.f45], fun o => o = .ret (.tup [.int .i64 (keyV g).1, .int .u64 (keyV g).2]), ?_, ?_⟩
    · rintro o rfl; exact ⟨⟨trivial, trivial, trivial⟩, hk⟩
    intro c hc
    clear hk
    refine ⟨hg, ?_⟩
    refine br_both (fun e => ?_) (fun e => ?_)
    · have e : isN g.toNat = true := e
      refine outII ?_ ?_
      · simp [keyV, e]
      · simp [keyV, e]
    · have e : isN g.toNat = false := e
      refine br_eq (fun e1 => ?_) (fun e1 => ?_)
      · have e1 : g.tmod 9223372036854775808 = 0 := e1
        refine outII ?_ ?_
        · simp [keyV, e, e1]
        · simp [keyV, e, e1]
      · have e1 : g.tmod 9223372036854775808 ≠ 0 := e1
        refine br_dec (fun e2 => ?_) (fun e2 => ?_)
        · have e2 : 9223372036854775808 ≤ g := e2
          refine outII ?_ ?_
          · rw [keyV, e, if_neg (by simp), if_neg e1, if_pos e2]
          · rw [keyV, e, if_neg (by simp), if_neg e1, if_pos e2]
        · have e2 : ¬ 9223372036854775808 ≤ g := e2
          refine outII ?_ ?_
          · rw [keyV, e, if_neg (by simp), if_neg e1, if_neg e2]
          · rw [keyV, e, if_neg (by simp), if_neg e1, if_neg e2]
  · exact hs.elim

/-- The document's order is that of the values. -/
theorem key_cmp {a b : Int} (ha : bnd a) (hb : bnd b) :
    cmpV a.toNat b.toNat = if (keyV a).1 < (keyV b).1 ∨ ((keyV a).1 = (keyV b).1 ∧ (keyV a).2 < (keyV b).2) then -1 else if (keyV b).1 < (keyV a).1 ∨ (keyV b).2 < (keyV a).2 then 1 else 0 := by
  obtain ⟨m, rfl⟩ := Int.eq_ofNat_of_zero_le ha.1
  obtain ⟨n, rfl⟩ := Int.eq_ofNat_of_zero_le hb.1
  have hm : m < 18446744073709551616 := by have := ha.2; omega
  have hn : n < 18446744073709551616 := by have := hb.2; omega
  simp only [Int.toNat_natCast]
  have kv : ∀ x : Nat, x < 18446744073709551616 → keyV (x : Int) = if isN x then (0, 0) else if magN x = 0 then (2, 0) else if 9223372036854775808 ≤ x then (1, ((9223372036854775808 - magN x : Nat) : Int)) else (3, (magN x : Int)) := by
    intro x hx
    unfold keyV
    have e : (x : Int).tmod 9223372036854775808 = ((magN x : Nat) : Int) := rfl
    rw [e, Int.toNat_natCast]
    have hmg : magN x < 9223372036854775808 := Nat.mod_lt _ (by decide)
    split
    · rfl
    · have q1 : (((magN x : Nat) : Int) = 0) ↔ magN x = 0 := by omega
      have q2 : ((9223372036854775808 : Int) ≤ (x : Int)) ↔ 9223372036854775808 ≤ x := by omega
      simp only [q1, q2]
      split
      · rfl
      · split
        · congr 1
          simp [IntKind.wrap_u64]
          omega
        · rfl
  have sv : ∀ x : Nat, x < 18446744073709551616 → (9223372036854775808 ≤ x ∧ sval x = -((rungV (magN x) : Nat) : Int)) ∨ (x < 9223372036854775808 ∧ sval x = ((rungV (magN x) : Nat) : Int)) := by
    intro x hx
    unfold sval sg negB
    rcases Nat.lt_or_ge x 9223372036854775808 with q | q
    · right
      rw [Nat.div_eq_of_lt q]
      exact ⟨q, rfl⟩
    · left
      have : x / 9223372036854775808 = 1 := by omega
      rw [this]
      exact ⟨q, rfl⟩
  rw [kv m hm, kv n hn]
  cases em : isN m with
  | true =>
    cases en : isN n with
    | true => simp [cmpV, em, en]
    | false =>
      simp only [cmpV, em, en, if_true, Bool.false_eq_true, if_false]
      split
      · simp
      · split <;> simp
  | false =>
    cases en : isN n with
    | true =>
      simp only [cmpV, em, en, if_true, Bool.false_eq_true, if_false]
      split
      · simp
      · split <;> simp
    | false =>
      rw [cmpV_val em en]
      simp only [Bool.false_eq_true, if_false]
      have hmg : magN m < 9223372036854775808 := Nat.mod_lt _ (by decide)
      have hng : magN n < 9223372036854775808 := Nat.mod_lt _ (by decide)
      have kc : ∀ x : Nat, isN x = false → x < 18446744073709551616 → (magN x = 0 ∧ keyV (x : Int) = (2, 0)) ∨ (magN x ≠ 0 ∧ 9223372036854775808 ≤ x ∧ keyV (x : Int) = (1, ((9223372036854775808 - magN x : Nat) : Int))) ∨ (magN x ≠ 0 ∧ x < 9223372036854775808 ∧ keyV (x : Int) = (3, (magN x : Int))) := by
        intro x ex hx
        have := kv x hx
        rw [ex] at this
        simp only [Bool.false_eq_true, if_false] at this
        by_cases p : magN x = 0
        · rw [if_pos p] at this; exact .inl ⟨p, this⟩
        · rw [if_neg p] at this
          by_cases q : 9223372036854775808 ≤ x
          · rw [if_pos q] at this; exact .inr (.inl ⟨p, q, this⟩)
          · rw [if_neg q] at this; exact .inr (.inr ⟨p, by omega, this⟩)
      have km := kc m em hm
      have kn := kc n en hn
      rw [kv m hm, em] at km
      rw [kv n hn, en] at kn
      simp only [Bool.false_eq_true, if_false] at km kn
      have rz : rungV 0 = 0 := rungV_zero
      have r1 : magN m = 0 → rungV (magN m) = 0 := fun q => by rw [q, rz]
      have r2 : magN n = 0 → rungV (magN n) = 0 := fun q => by rw [q, rz]
      have r3 : magN m ≠ 0 → 0 < rungV (magN m) := fun q => Nat.lt_of_le_of_lt (Nat.zero_le _) (rungV_lt (show 0 < magN m by omega))
      have r4 : magN n ≠ 0 → 0 < rungV (magN n) := fun q => Nat.lt_of_le_of_lt (Nat.zero_le _) (rungV_lt (show 0 < magN n by omega))
      have r5 := @rungV_lt_iff (magN m) (magN n)
      have r6 := @rungV_lt_iff (magN n) (magN m)
      have s1 := sv m hm
      have t1 := sv n hn
      generalize (if magN m = 0 then ((2 : Int), (0 : Int)) else if 9223372036854775808 ≤ m then (1, ((9223372036854775808 - magN m : Nat) : Int)) else (3, (magN m : Int))) = k1 at *
      generalize (if magN n = 0 then ((2 : Int), (0 : Int)) else if 9223372036854775808 ≤ n then (1, ((9223372036854775808 - magN n : Nat) : Int)) else (3, (magN n : Int))) = k2 at *
      generalize rungV (magN m) = R at *
      generalize rungV (magN n) = S at *
      generalize sval m = x at *
      generalize sval n = y at *
      clear kv sv kc ha hb em en
      rcases km with ⟨p, rfl⟩ | ⟨p, q, rfl⟩ | ⟨p, q, rfl⟩ <;> rcases kn with ⟨p', rfl⟩ | ⟨p', q', rfl⟩ | ⟨p', q', rfl⟩ <;> simp only [true_and] <;> (repeat' split) <;> omega

def sRefCmp : Spec := fun args h nx K => match args with
  | [.int .u64 a, .int .u64 b] => bnd a ∧ bnd b ∧ K (.ret (.int .i64 (cmpV a.toNat b.toNat))) h nx
  | _ => False
theorem sRefCmp_ok : SpecOK Tryd.prog 23 sRefCmp := by
  refine specOK_pure (fn := Tryd.f23) rfl rfl rfl T_ok (SP := [(45, sKey)]) (consSP sKey_ok noSP) [] trivial 300 _ ?_
  intro args h nx K hs
  unfold sRefCmp at hs
  split at hs
  · rename_i a b
    obtain ⟨ha, hb, hk⟩ := hs
    refine ⟨trivial, by repeat constructor, by simp [Tryd.f23], fun o => o = .ret (.int .i64 (cmpV a.toNat b.toNat)), ?_, ?_⟩
    · rintro o rfl; exact ⟨trivial, hk⟩
    intro c hc
    clear hk
    refine ⟨ha, ?_⟩
    refine ⟨hb, ?_⟩
    have hkey := key_cmp ha hb
    rw [hkey]
    clear hkey
    generalize keyV a = p
    generalize keyV b = q
    obtain ⟨x, u⟩ := p
    obtain ⟨y, v⟩ := q
    refine br_dec (fun e1 => ?_) (fun e1 => ?_)
    · have e1 : x < y := e1
      exact outI (by rw [if_pos (.inl e1)])
    · have e1 : ¬ x < y := e1
      refine br_eq (fun e2 => ?_) (fun e2 => ?_)
      · have e2 : x = y := e2
        refine br_dec (fun e3 => ?_) (fun e3 => ?_)
        · have e3 : u < v := e3
          exact outI (by rw [if_pos (.inr ⟨e2, e3⟩)])
        · have e3 : ¬ u < v := e3
          refine br_dec (fun e4 => ?_) (fun e4 => ?_)
          · have e4 : y < x := e4
            exact absurd e4 (by omega)
          · refine br_dec (fun e5 => ?_) (fun e5 => ?_)
            · have e5 : v < u := e5
              exact outI (by simp only; rw [if_neg (by omega), if_pos (.inr e5)])
            · have e5 : ¬ v < u := e5
              exact outI (by simp only; rw [if_neg (by omega), if_neg (by omega)])
      · have e2 : x ≠ y := e2
        refine br_dec (fun e4 => ?_) (fun e4 => ?_)
        · have e4 : y < x := e4
          exact outI (by simp only; rw [if_neg (by omega), if_pos (.inl e4)])
        · have e4 : ¬ y < x := e4
          exact absurd e4 (by omega)
  · exact hs.elim
end Go.Proofs.YtmohokeeglnliaaDoor.Sx
