import Derived.Test.YtdjekplkejkgdaaSxL1
/-
  The walks of this seat's laws: RingReverse.
-/
namespace Go.Proofs.Ytdjekplkejkgdaa.Sx
open Go Go.Proofs
set_option maxRecDepth 100000
set_option linter.unusedSimpArgs false
set_option linter.unusedVariables false

theorem u8_has {n : Int} (h : IntKind.u8.has n) : 0 ≤ n ∧ n ≤ 255 := by simpa [IntKind.has, IntKind.min, IntKind.max, IntKind.signed, IntKind.bits] using h
def wkT (h h' : Hp) (σ : Sl) : Sl → Prop
  | [] => True
  | (t, u) :: r => (match lk t σ with | some v => tell h h' v u | none => False) ∧ wkT h h' σ r
theorem wkT_at {h h' : Hp} {σ : Sl} : ∀ {l : Sl}, wkT h h' σ l → ∀ t u, lk t l = some u → ∃ v, lk t σ = some v ∧ tell h h' v u
  | [], _, t, u, e => by simp [lk] at e
  | (s, x) :: r, ⟨h1, h2⟩, t, u, e => by
    rw [lk_cons] at e
    split at e
    · rename_i ht
      subst ht
      injection e with e
      subst e
      split at h1
      · rename_i v hv; exact ⟨v, hv, h1⟩
      · exact h1.elim
    · exact wkT_at h2 t u e
/-- A nil slice has a row of its own. -/
theorem W_nil {E : Env} {k : List It} {σ σ' : Sl} {h : Hp} {nx nx' : Nat} (t : Nat) (ht : fd t h = .gone) (hs : wkT h ((t, .ro none 0 1 (gl [])) :: h) σ σ') (hv : W E k σ' ((t, .ro none 0 1 (gl [])) :: h) nx') : W E k σ h nx := fun a w hm =>
  hv a w ⟨hm.size, fun t u e => let ⟨v, e1, r⟩ := wkT_at hs t u e; r _ (hm.slots t v e1), hm.calm, (hm.rel.ronil ht).1⟩
theorem tell_ext {h h' : Hp} (hx : Ext h h') (v : V) : tell h h' v v := fun x r => vrel_mono hx v x r

theorem ixZ_c {k : Nat} : ∀ {l : List Nat}, ixZ (k : Int) (cI l) = ix k l
  | [] => rfl
  | x :: l => by
    show (if (x : Int) = (k : Int) then 0 else ixZ k (cI l) + 1) = if x = k then 0 else ix k l + 1
    rw [ixZ_c (l := l)]
    by_cases h : x = k
    · rw [if_pos h, if_pos (by omega)]
    · rw [if_neg h, if_neg (by omega)]
theorem mem_c {k : Nat} {l : List Nat} : (k : Int) ∈ cI l ↔ k ∈ l := by
  simp only [cI, List.mem_map]
  constructor
  · rintro ⟨x, hx, e⟩
    obtain rfl : x = k := by omega
    exact hx
  · intro h
    exact ⟨k, h, rfl⟩
theorem eraseIdx_c {k : Nat} : ∀ {l : List Nat}, k ∈ l → (cI l).eraseIdx (ix k l) = cI (l.erase k)
  | [], h => by simp at h
  | x :: l, h => by
    by_cases e : x = k
    · subst e
      rw [List.erase_cons_head]
      show ((x : Int) :: cI l).eraseIdx (if x = x then 0 else ix x l + 1) = _
      rw [if_pos rfl]
      rfl
    · rw [List.erase_cons_tail (by simpa using e)]
      show ((x : Int) :: cI l).eraseIdx (if x = k then 0 else ix k l + 1) = (x : Int) :: cI (l.erase k)
      rw [if_neg e, List.eraseIdx_cons_succ, eraseIdx_c (by rcases List.mem_cons.1 h with q | q; exact absurd q.symm e; exact q)]
theorem cI_inj {l m : List Nat} (h : cI l = cI m) : l = m := by
  have := congrArg (List.map Int.toNat) h
  simpa [cI, List.map_map, Function.comp_def] using this

theorem lst_cap {e : Ent} {l : List Int} {cap : Nat} (hl : lstE e l cap) : l.length ≤ cap := by
  rcases hl with ⟨rfl, rfl, rfl⟩ | ⟨b, g, ty, rfl, h1, h2, h3, h4⟩
  · simp
  · exact h1
/-- What RingReverse is asked for, out of the document alone. -/
theorem front_one {m : Md} {k : Nat} (hk : k < m.n) (h0 : m.L 0 = []) : (m.frontI 1 k).L 1 = k :: (m.L 1).erase k ∧ (m.frontI 1 k).L 0 = [] ∧ (m.frontI 1 k).n = m.n := by
  have hr : rightB 1 = true ∧ m.isN k = true := ⟨rfl, by unfold Md.isN; simp only [Bool.and_eq_true, decide_eq_true_eq]; omega⟩
  have e : m.frontI 1 k = m.front 1 k := by unfold Md.frontI; rw [if_pos hr]; rfl
  rw [e]
  unfold Md.front
  rw [Md.set_at, Md.set_ne (by decide)]
  have h0' : k ∉ m.L 0 := by rw [h0]; simp
  by_cases hm : k ∈ m.L 1
  · have hat : m.at k = some 1 := by unfold Md.at; rw [if_neg h0', if_pos hm]
    have ho : m.out k = m.set 1 ((m.L 1).erase k) := by unfold Md.out; rw [hat]
    rw [ho, Md.set_at, Md.set_ne (by decide)]
    exact ⟨rfl, h0, rfl⟩
  · have hat : m.at k = none := by unfold Md.at; rw [if_neg h0', if_neg hm]
    rw [out_no hat, List.erase_of_not_mem hm]
    exact ⟨rfl, h0, rfl⟩

def SPR : SpT := [(8, sAwake), (9, mNew), (14, mList), (16, sFind), (19, mLen), (20, mFront), (21, sWithout), (22, sInts)]
theorem spr : ∀ p ∈ SPR, SpecOK Try.prog p.1 p.2 := consSP sAwake_ok (consSP mNew_ok (consSP mList_ok (consSP sFind_ok (consSP mLen_ok (consSP mFront_ok (consSP sWithout_ok (consSP sInts_ok noSP)))))))

/-- The list's row, by the tag 3. -/
abbrev H5 (bS bA : Nat) (s : Sh) (b : Option Addr) (len : Nat) (f : Nat → Int) (e : Ent) : Hp := [(1, eS bS s), (2, eA bA s), (2000, .ro b len 1 (g1 .u8 f)), (3, e)]
theorem law5_walk {c : Cx} (hc : c.P = Try.prog) {a : Int} (ha : 0 ≤ a ∧ a ≤ 255) {b : Option Addr} {len cap : Nat} {f : Nat → Int} (hf : ∀ i, i < len → 0 ≤ f i ∧ f i ≤ 255) (hlen : len ≤ 9223372036854775807) :
    ∃ cd, Try.f5.body = some cd ∧ W ⟨c, Try.f5, T, SPR, fun o _ _ => o = .ret (.bool true)⟩ [.code cd] (argsS [.int .u8 a, .slice 2000 0 len cap] 0) [(2000, .ro b len 1 (g1 .u8 f))] 0 := by
  refine ⟨_, rfl, ?_⟩
  have hE := mkE' (fn := Try.f5) (R := fun o _ _ => o = .ret (.bool true)) hc spr
  have ew : ∀ {τ : Nat → Nat} {h' : Hp}, wkE τ h' (.ro b len 1 (g1 .u8 f)) (.ro b len 1 (g1 .u8 f)) := ⟨rfl, rfl, rfl, fun i c hi hc => ⟨rfl, rfl⟩⟩
  refine W_seq (nx := 0) ?_
  refine W_to (nx := 0) [(0, .int .u8 a), (1, .slice 2000 0 len cap)] [(2000, .ro b len 1 (g1 .u8 f))] 30 ?_ ?_
  · refine vc_sound hE 20 _ _ _ 30 ?_
    exact ⟨tau [], rfl, ⟨⟨rfl, rfl⟩, ⟨⟨rfl, trivial⟩, rfl, rfl, rfl⟩, trivial⟩, ew, trivial⟩
  refine W_seq (nx := 30) ?_
  refine W_to (nx := 30) [(0, .int .u8 a), (1, .slice 2000 0 len cap)] [(2000, .ro b len 1 (g1 .u8 f))] 30 ?_ ?_
  · refine vc_sound hE 20 _ _ _ 30 ?_
    refine ⟨rfl, ?_⟩
    exact ⟨tau [], rfl, ⟨⟨rfl, rfl⟩, ⟨⟨rfl, trivial⟩, rfl, rfl, rfl⟩, trivial⟩, ew, trivial⟩
  -- so many nodes
  obtain ⟨n, hn, hn1, hn2⟩ : ∃ n : Nat, IntKind.i64.wrap (1 + (IntKind.i64.wrap a).tmod 64) = (n : Int) ∧ 1 ≤ n ∧ n ≤ 64 := by
    have e1 : IntKind.i64.wrap a = a := by simp [IntKind.wrap_i64]; omega
    have e2 : a.tmod 64 = a % 64 := Int.tmod_eq_emod_of_nonneg ha.1
    rw [e1, e2]
    refine ⟨(1 + a % 64).toNat, ?_, ?_, ?_⟩
    · simp [IntKind.wrap_i64]; omega
    · omega
    · omega
  refine W_seq (nx := 30) ?_
  refine W_to (nx := 30) [(1, .slice 2000 0 len cap), (5, .int .i64 n)] [(2000, .ro b len 1 (g1 .u8 f))] 30 ?_ ?_
  · refine vc_sound hE 30 _ _ _ 30 ?_
    exact ⟨tau [], rfl, ⟨⟨⟨rfl, trivial⟩, rfl, rfl, rfl⟩, ⟨rfl, hn⟩, trivial⟩, ew, trivial⟩
  -- a new shelf
  refine W_seq (nx := 30) ?_
  refine W_ex (nx := 30) (fun (a : Nat × Nat × Sh) => Inv a.2.2 (Md.new n 1) n) (fun a => [(1, .slice 2000 0 len cap), (5, .int .i64 n), (6, .ptr 1 0 0)]) (fun a => [(1, eS a.1 a.2.2), (2, eA a.2.1 a.2.2), (2000, .ro b len 1 (g1 .u8 f))]) 30 ?_ ?_
  · refine vc_sound hE 30 _ _ _ 30 ?_
    have hmay : mayB n 1 = true := by unfold mayB; simp only [Bool.and_eq_true, decide_eq_true_eq]; omega
    refine ⟨n, 1, rfl, rfl, rfl, fun e => (by rw [hmay] at e; cases e), fun _ bS bA s hN hi => ?_⟩
    refine ⟨(bS, bA, s), hi, tau [(1, 30), (2, 31)], rfl, ?_, ⟨eS_wk ⟨rfl, trivial⟩, eA_wk rfl, ew, trivial⟩⟩
    exact ⟨⟨⟨rfl, trivial⟩, rfl, rfl, rfl⟩, ⟨rfl, rfl⟩, ⟨⟨rfl, trivial⟩, rfl, rfl⟩, trivial⟩
  rintro ⟨bS, bA, s⟩ hi
  refine W_seq (nx := 30) ?_
  refine W_to (nx := 30) [(1, .slice 2000 0 len cap), (5, .int .i64 n), (6, .ptr 1 0 0)] [(1, eS bS s), (2, eA bA s), (2000, .ro b len 1 (g1 .u8 f))] 30 ?_ ?_
  · refine vc_sound hE 30 _ _ _ 30 ?_
    exact ⟨tau [], rfl, ⟨⟨⟨rfl, trivial⟩, rfl, rfl, rfl⟩, ⟨rfl, rfl⟩, ⟨⟨rfl, trivial⟩, rfl, rfl⟩, trivial⟩, eS_wk ⟨rfl, trivial⟩, eA_wk rfl, ew, trivial⟩
  -- nothing is wanted yet
  refine W_seq (nx := 30) ?_
  refine W_to (nx := 30) [(1, .slice 2000 0 len cap), (5, .int .i64 n), (6, .ptr 1 0 0), (8, .nils)] [(1, eS bS s), (2, eA bA s), (2000, .ro b len 1 (g1 .u8 f))] 30 ?_ ?_
  · refine vc_sound hE 30 _ _ _ 30 ?_
    exact ⟨tau [], rfl, ⟨⟨⟨rfl, trivial⟩, rfl, rfl, rfl⟩, ⟨rfl, rfl⟩, ⟨⟨rfl, trivial⟩, rfl, rfl⟩, trivial, trivial⟩, eS_wk ⟨rfl, trivial⟩, eA_wk rfl, ew, trivial⟩
  refine W_nil (σ' := [(1, .slice 2000 0 len cap), (5, .int .i64 n), (6, .ptr 1 0 0), (8, .slice 3 0 0 0)]) 3 rfl ⟨tell_slice rfl, tell_flat trivial, tell_ptr rfl, tell_nil rfl, trivial⟩ (nx' := 30) ?_
  -- one behind the other
  refine W_seq (nx := 30) ?_
  refine W_ex (nx := 30) (fun (a : Sh × Md × Ent × Nat) => Inv a.1 a.2.1 a.2.1.n ∧ a.2.1.n = n ∧ a.2.1.L 0 = [] ∧ lstE a.2.2.1 (cI (a.2.1.L 1)) a.2.2.2) (fun a => [(6, .ptr 1 0 0), (8, .slice 3 0 (cI (a.2.1.L 1)).length a.2.2.2)]) (fun a => [(1, eS bS a.1), (2, eA bA a.1), (3, a.2.2.1)]) 30 ?_ ?_
  · refine vc_sound hE 8 _ _ _ 30 ?_
    refine W_loop (fun r σ h => ∃ (j : Nat) (s : Sh) (m : Md) (e : Ent) (cp : Nat), r = len - j ∧ j ≤ len ∧ Inv s m m.n ∧ m.n = n ∧ m.L 0 = [] ∧ lstE e (cI (m.L 1)) cp ∧ σ = [(1, .slice 2000 0 len cap), (5, .int .i64 n), (6, .ptr 1 0 0), (8, .slice 3 0 (cI (m.L 1)).length cp), (9, .int .i64 j)] ∧ h = H5 bS bA s b len f e)
      len ⟨0, s, Md.new n 1, _, 0, rfl, by omega, hi, rfl, rfl, .inl ⟨rfl, rfl, rfl⟩, rfl, rfl⟩ (tau []) ⟨rfl, ⟨⟨⟨rfl, trivial⟩, rfl, rfl, rfl⟩, ⟨rfl, rfl⟩, ⟨⟨rfl, trivial⟩, rfl, rfl⟩, ⟨⟨rfl, trivial⟩, rfl, rfl, rfl⟩, ⟨rfl, rfl⟩, trivial⟩, eS_wk ⟨rfl, trivial⟩, eA_wk rfl, ew, ⟨rfl, rfl, rfl, fun i c hi => by omega⟩, trivial⟩ 30 ?_
    clear hi s
    rintro r σ h ⟨j, s, m, e, cp, rfl, hj, hi, hmn, h0, hl, rfl, rfl⟩
    have hll : (cI (m.L 1)).length ≤ n := by rw [cI_len, ← hmn]; exact hi.lenq (by omega)
    -- is there one more?
    refine vc_sound hE 1 _ _ _ 30 ?_
    refine W_piece (nx := 30) (fun σ h _ => j < len ∧ ∃ τ, wk τ σ h [(1, .slice 2000 0 len cap), (5, .int .i64 n), (6, .ptr 1 0 0), (8, .slice 3 0 (cI (m.L 1)).length cp), (9, .int .i64 j)] (H5 bS bA s b len f e)) ?_ ?_
    · refine vc_sound hE 60 _ _ _ 30 ?_
      have fin : ∀ σ1 h1, (wk (tau []) σ1 h1 [(6, .ptr 1 0 0), (8, .slice 3 0 (cI (m.L 1)).length cp)] [(1, eS bS s), (2, eA bA s), (3, e)]) → ∃ a : Sh × Md × Ent × Nat, (Inv a.1 a.2.1 a.2.1.n ∧ a.2.1.n = n ∧ a.2.1.L 0 = [] ∧ lstE a.2.2.1 (cI (a.2.1.L 1)) a.2.2.2) ∧ ∃ τ, wk τ σ1 h1 [(6, .ptr 1 0 0), (8, .slice 3 0 (cI (a.2.1.L 1)).length a.2.2.2)] [(1, eS bS a.1), (2, eA bA a.1), (3, a.2.2.1)] := fun σ1 h1 hw => ⟨(s, m, e, cp), ⟨hi, hmn, h0, hl⟩, _, hw⟩
      have hlv : live [(1, eS bS s), (2, eA bA s), (3, e)] 3 := lst_live hl
      have hlv' : live (H5 bS bA s b len f e) 3 := lst_live hl
      (refine (?_ : br _ _ _); refine br_dec (fun q => ?_) (fun q => ?_))
      · have q : (j : Int) < len := q
        (refine (?_ : br _ _ _); refine br_dec (fun q2 => ?_) (fun q2 => ?_))
        · exact ⟨by omega, tau [], rfl, ⟨⟨⟨rfl, trivial⟩, rfl, rfl, rfl⟩, ⟨rfl, rfl⟩, ⟨⟨rfl, trivial⟩, rfl, rfl⟩, ⟨⟨rfl, hlv'⟩, rfl, rfl, rfl⟩, ⟨rfl, rfl⟩, trivial⟩, eS_wk ⟨rfl, trivial⟩, eA_wk rfl, ew, lst_wk hl _ _, trivial⟩
        · exact fin _ _ ⟨rfl, ⟨⟨⟨rfl, trivial⟩, rfl, rfl⟩, ⟨⟨rfl, hlv⟩, rfl, rfl, rfl⟩, trivial⟩, eS_wk ⟨rfl, trivial⟩, eA_wk rfl, lst_wk hl _ _, trivial⟩
      · exact fin _ _ ⟨rfl, ⟨⟨⟨rfl, trivial⟩, rfl, rfl⟩, ⟨⟨rfl, hlv⟩, rfl, rfl, rfl⟩, trivial⟩, eS_wk ⟨rfl, trivial⟩, eA_wk rfl, lst_wk hl _ _, trivial⟩
    rintro σ1 h1 _ ⟨hjl, τ1, hw1⟩
    refine W_weak (nx' := 30) τ1 hw1 ?_
    clear hw1 σ1 h1 τ1
    -- the node that is put
    obtain ⟨k, hk, hkn⟩ : ∃ k : Nat, IntKind.i64.wrap ((IntKind.i64.wrap (f (addI 0 j))).tmod n) = (k : Int) ∧ k < n := by
      have hz : addI 0 j = j := by rw [addI_eq, Nat.zero_add]
      have hfj := hf j hjl
      have e1 : IntKind.i64.wrap (f j) = f j := by simp [IntKind.wrap_i64]; omega
      have e2 : (f j).tmod n = f j % n := Int.tmod_eq_emod_of_nonneg hfj.1
      have e3 : 0 ≤ f j % n := Int.emod_nonneg _ (by omega)
      have e4 : f j % n < n := Int.emod_lt_of_pos _ (by omega)
      rw [hz, e1, e2]
      refine ⟨(f j % n).toNat, ?_, by omega⟩
      simp only [IntKind.wrap_i64]; omega
    have hk' : (IntKind.i64.wrap (f (addI 0 j))).tmod n = (k : Int) := by
      have hz : addI 0 j = j := by rw [addI_eq, Nat.zero_add]
      have hfj := hf j hjl
      have e1 : IntKind.i64.wrap (f j) = f j := by simp [IntKind.wrap_i64]; omega
      have e2 : (f j).tmod n = f j % n := Int.tmod_eq_emod_of_nonneg hfj.1
      have e3 : 0 ≤ f j % n := Int.emod_nonneg _ (by omega)
      have e4 : f j % n < n := Int.emod_lt_of_pos _ (by omega)
      rw [hz, e1, e2] at hk ⊢
      rw [← hk]
      simp only [IntKind.wrap_i64]; omega
    have hlv' : live (H5 bS bA s b len f e) 3 := lst_live hl
    refine vc_sound hE 2 _ _ _ 30 ?_
    refine W_seq (nx := 30) ?_
    refine W_to (nx := 30) [(1, .slice 2000 0 len cap), (5, .int .i64 n), (6, .ptr 1 0 0), (8, .slice 3 0 (cI (m.L 1)).length cp), (9, .int .i64 j), (10, .int .i64 k)] (H5 bS bA s b len f e) 30 ?_ ?_
    · refine vc_sound hE 60 _ _ _ 30 ?_
      (refine (?_ : chk _ _); refine chk_ok (show (decide ((0 : Int) ≤ (j : Int)) && decide ((j : Int) < (len : Int))) = true by simp only [Bool.and_eq_true, decide_eq_true_eq]; omega) ?_)
      (refine (?_ : chk _ _); refine chk_ok rfl ?_)
      (refine (?_ : chk _ _); refine chk_ok (Nat.ble_eq_true_of_le (show addI 0 j * 1 + 0 + 1 ≤ len * 1 by rw [addI_eq]; omega)) ?_)
      (refine (?_ : chk _ _); refine chk_ok rfl ?_)
      (refine (?_ : chk _ _); refine chk_ok (show (!(decide ((n : Int) = 0))) = true by rw [decide_eq_false (by omega)]; rfl) ?_)
      exact ⟨tau [], rfl, ⟨⟨⟨rfl, trivial⟩, rfl, rfl, rfl⟩, ⟨rfl, rfl⟩, ⟨⟨rfl, trivial⟩, rfl, rfl⟩, ⟨⟨rfl, hlv'⟩, rfl, rfl, rfl⟩, ⟨rfl, rfl⟩, ⟨rfl, hk'⟩, trivial⟩, eS_wk ⟨rfl, trivial⟩, eA_wk rfl, ew, lst_wk hl _ _, trivial⟩
    clear hk hk'
    -- it is put in front
    obtain ⟨f1, f0, fn⟩ := front_one (m := m) (k := k) (by omega) h0
    refine W_seq (nx := 30) ?_
    refine W_ex (nx := 30) (fun (s' : Sh) => Inv s' (m.frontI 1 k) (m.frontI 1 k).n) (fun _ => [(1, .slice 2000 0 len cap), (5, .int .i64 n), (6, .ptr 1 0 0), (8, .slice 3 0 (cI (m.L 1)).length cp), (9, .int .i64 j), (10, .int .i64 k)]) (fun s' => H5 bS bA s' b len f e) 30 ?_ ?_
    · refine vc_sound hE 60 _ _ _ 30 ?_
      refine ⟨_, m, 1, k, rfl, hi.mut rfl rfl fun s' hN hi' => ?_⟩
      have hlv2 : live (H5 bS bA s' b len f e) 3 := lst_live hl
      exact ⟨s', hi', tau [], rfl, ⟨⟨⟨rfl, trivial⟩, rfl, rfl, rfl⟩, ⟨rfl, rfl⟩, ⟨⟨rfl, trivial⟩, rfl, rfl⟩, ⟨⟨rfl, hlv2⟩, rfl, rfl, rfl⟩, ⟨rfl, rfl⟩, ⟨rfl, rfl⟩, trivial⟩, eS_wk ⟨rfl, trivial⟩, eA_wk hN, ew, lst_wk hl _ _, trivial⟩
    clear hlv' hi s
    intro s hi
    -- what is wanted, without it
    refine W_seq (nx := 30) ?_
    refine W_ex (nx := 30) (fun (a : Ent × Nat) => lstE a.1 (cI ((m.L 1).erase k)) a.2) (fun a => [(1, .slice 2000 0 len cap), (5, .int .i64 n), (6, .ptr 1 0 0), (8, .slice 3 0 (cI ((m.L 1).erase k)).length a.2), (9, .int .i64 j), (10, .int .i64 k)]) (fun a => H5 bS bA s b len f a.1) 30 ?_ ?_
    · have hlv : ∀ e', e'.here → live (H5 bS bA s b len f e') 3 := fun e' h => h
      refine vc_sound hE 60 _ _ _ 30 ?_
      refine ⟨_, cI (m.L 1), k, rfl, hl.rd rfl, by omega, ?_⟩
      by_cases hm : k ∈ m.L 1
      · have hfd : findI (k : Int) (cI (m.L 1)) = ((ix k (m.L 1) : Nat) : Int) := by unfold findI; rw [if_pos (mem_c.2 hm), ixZ_c]
        rw [hfd]
        refine ⟨_, cI (m.L 1), k, rfl, hl.rd rfl, by omega, ?_⟩
        rw [hfd]
        refine ⟨_, cI (m.L 1), ix k (m.L 1), rfl, hl.rd rfl, fun _ _ _ _ q => (by cases q; exact lst_cap hl), by rw [cI_len]; exact ix_lt hm, by omega, rfl, fun e' cp' hl' => ?_⟩
        rw [eraseIdx_c hm] at hl' ⊢
        exact ⟨(e', cp'), hl', tau [(3, 30)], rfl, ⟨⟨⟨rfl, trivial⟩, rfl, rfl, rfl⟩, ⟨rfl, rfl⟩, ⟨⟨rfl, trivial⟩, rfl, rfl⟩, ⟨⟨rfl, hlv _ (lst_live hl')⟩, rfl, rfl, rfl⟩, ⟨rfl, rfl⟩, ⟨rfl, rfl⟩, trivial⟩, eS_wk ⟨rfl, trivial⟩, eA_wk rfl, ew, lst_wk hl' _ _, trivial⟩
      · have hfd : findI (k : Int) (cI (m.L 1)) = -1 := by unfold findI; rw [if_neg (fun q => hm (mem_c.1 q))]
        rw [hfd]
        refine ⟨(e, cp), by rw [List.erase_of_not_mem hm]; exact hl, tau [], rfl, ⟨⟨⟨rfl, trivial⟩, rfl, rfl, rfl⟩, ⟨rfl, rfl⟩, ⟨⟨rfl, trivial⟩, rfl, rfl⟩, ⟨⟨rfl, hlv _ (lst_live hl)⟩, rfl, by rw [List.erase_of_not_mem hm], rfl⟩, ⟨rfl, rfl⟩, ⟨rfl, rfl⟩, trivial⟩, eS_wk ⟨rfl, trivial⟩, eA_wk rfl, ew, lst_wk hl _ _, trivial⟩
    clear hl hll
    rintro ⟨e2, cp2⟩ hl
    have hll : (cI ((m.L 1).erase k)).length + 1 ≤ n := by
      have h1 := hi.lenq (q := 1) (by omega)
      rw [f1, fn, hmn] at h1
      rw [cI_len]
      simpa using h1
    -- and with it in front
    refine W_ex (nx := 30) (fun (a : Ent × Nat) => lstE a.1 (cI (k :: (m.L 1).erase k)) a.2) (fun a => [(1, .slice 2000 0 len cap), (5, .int .i64 n), (6, .ptr 1 0 0), (8, .slice 3 0 (cI (k :: (m.L 1).erase k)).length a.2), (9, .int .i64 j)]) (fun a => H5 bS bA s b len f a.1) 30 ?_ ?_
    · have hlv : ∀ e', e'.here → live (H5 bS bA s b len f e') 3 := fun e' h => h
      have lend : ∀ (σ1 : Sl) (h1 : Hp) (e' : Ent) (cp' : Nat), lstE e' (cI (k :: (m.L 1).erase k)) cp' → (∃ τ, wk τ σ1 h1 [(1, .slice 2000 0 len cap), (5, .int .i64 n), (6, .ptr 1 0 0), (8, .slice 3 0 (cI (k :: (m.L 1).erase k)).length cp'), (9, .int .i64 j)] (H5 bS bA s b len f e')) → ∃ a : Ent × Nat, lstE a.1 (cI (k :: (m.L 1).erase k)) a.2 ∧ ∃ τ, wk τ σ1 h1 [(1, .slice 2000 0 len cap), (5, .int .i64 n), (6, .ptr 1 0 0), (8, .slice 3 0 (cI (k :: (m.L 1).erase k)).length a.2), (9, .int .i64 j)] (H5 bS bA s b len f a.1) := fun σ1 h1 e' cp' q1 q2 => ⟨(e', cp'), q1, q2⟩
      refine vc_sound hE 4 _ _ _ 30 ?_
      intro b1
      refine W_app hE 60 (nx := 31) (nx' := 31) (v := .slice 30 0 1 1) (u := .slice 3 0 (cI ((m.L 1).erase k)).length cp2) rfl rfl ?_
      refine app_L (l := [(k : Int)]) intT (.inr ⟨30, 0, 1, _, 1, _, rfl, rfl, Nat.le_refl _, fun i hi => (by obtain rfl : i = 0 := (by simpa using hi); rfl)⟩) (fun _ _ _ _ q => (by cases q; exact Nat.le_refl _)) (hl.rd rfl) rfl (by simp only [List.length_cons, List.length_nil]; omega) (fun hm => ?_) (fun tv i c q hm hle => ?_) (fun hm b2 cap2 g2 ty2 p1 p2 p3 => ?_)
      · refine lend _ _ (.blk b1 1 1 (gl [(k : Int)]) 3) 1 (lstE.of ?_ ?_ (by omega)) ⟨tau [(3, 30)], rfl, ⟨⟨⟨rfl, trivial⟩, rfl, rfl, rfl⟩, ⟨rfl, rfl⟩, ⟨⟨rfl, trivial⟩, rfl, rfl⟩, ⟨⟨rfl, trivial⟩, rfl, ?_, rfl⟩, ⟨rfl, rfl⟩, trivial⟩, eS_wk ⟨rfl, trivial⟩, eA_wk rfl, ew, ⟨rfl, rfl, rfl, rfl, fun i c hi hc => ?_⟩, trivial⟩
        · have : cI (k :: (m.L 1).erase k) = [(k : Int)] := by show (k : Int) :: cI ((m.L 1).erase k) = _; rw [hm]
          rw [this]
          exact ⟨fun j hj => rfl, fun j hj => trivial⟩
        · show (cI ((m.L 1).erase k)).length + 1 ≤ 1
          rw [hm]; simp
        · show 1 = (cI ((m.L 1).erase k)).length + 1
          rw [hm]; rfl
        · have hi : i < 1 := hi
          have hc : c < 1 := hc
          obtain rfl : i = 0 := by omega
          obtain rfl : c = 0 := by omega
          exact ⟨rfl, rfl⟩
      · have hm' : (cI ((m.L 1).erase k)).length ≠ 0 := fun q => hm (List.eq_nil_of_length_eq_zero q)
        cases q
        simp only [List.length_cons, List.length_nil] at hle
        omega
      · refine lend _ _ (.blk b2 cap2 1 g2 ty2) cap2 (lstE.of p3 p1 p2) ⟨tau [(3, 31)], rfl, ⟨⟨⟨rfl, trivial⟩, rfl, rfl, rfl⟩, ⟨rfl, rfl⟩, ⟨⟨rfl, trivial⟩, rfl, rfl⟩, ⟨⟨rfl, trivial⟩, rfl, rfl, rfl⟩, ⟨rfl, rfl⟩, trivial⟩, eS_wk ⟨rfl, trivial⟩, eA_wk rfl, ew, lst_wk (lstE.of p3 p1 p2) _ _, trivial⟩
    clear hl hll e2 cp2
    rintro ⟨e2, cp2⟩ hl
    have hlv : live (H5 bS bA s b len f e2) 3 := lst_live hl
    refine vc_sound hE 60 _ _ _ 30 ?_
    have hw : IntKind.i64.wrap ((j : Int) + 1) = ((j + 1 : Nat) : Int) := by simp [IntKind.wrap_i64]; omega
    refine ⟨len - (j + 1), _, _, by omega, ⟨j + 1, s, m.frontI 1 k, e2, cp2, rfl, by omega, hi, fn.trans hmn, f0, by rw [f1]; exact hl, rfl, rfl⟩, tau [], rfl, ⟨⟨⟨rfl, trivial⟩, rfl, rfl, rfl⟩, ⟨rfl, rfl⟩, ⟨⟨rfl, trivial⟩, rfl, rfl⟩, ⟨⟨rfl, hlv⟩, rfl, by rw [f1], rfl⟩, ⟨rfl, hw⟩, trivial⟩, eS_wk ⟨rfl, trivial⟩, eA_wk rfl, ew, lst_wk hl _ _, trivial⟩
  -- as it is wanted
  clear hi s
  rintro ⟨s, m, e, cp⟩ ⟨hi, hmn, h0, hl⟩
  have hi : Inv s m m.n := hi
  have h0 : m.L 0 = [] := h0
  have hl : lstE e (cI (m.L 1)) cp := hl
  have hmn : m.n = n := hmn
  have hlq := hi.lenq (q := 1) (by omega)
  refine W_seq (nx := 30) ?_
  refine W_to (nx := 30) [(4, .bool true)] [] 30 ?_ ?_
  · refine vc_sound hE 100 _ _ _ 30 ?_
    refine ⟨_, m, 1, rfl, hi.mS rfl rfl, rfl, fun e1 cp1 hl1 => ?_⟩
    have hli : m.listI 1 = m.L 1 := rfl
    refine ⟨_, _, cI (m.listI 1), cI (m.L 1), rfl, hl1.rd rfl, hl.rd rfl, by rw [cI_len, hli]; omega, by rw [cI_len]; omega, ?_⟩
    rw [decide_eq_true (show cI (m.listI 1) = cI (m.L 1) from rfl)]
    refine ⟨_, m, 1, rfl, hi.mS rfl rfl, ?_⟩
    have hlen1 : m.lenI 1 = ((cI (m.L 1)).length : Int) := by rw [cI_len]; rfl
    rw [hlen1]
    (refine (?_ : br _ _ _); refine br_eqT rfl ?_)
    refine ⟨_, m, 0, rfl, hi.mS rfl rfl, rfl, fun e2 cp2 hl2 => ?_⟩
    have hlen0 : (cI (m.listI 0)).length = 0 := by rw [show m.listI 0 = [] from h0]; rfl
    rw [hlen0]
    exact ⟨tau [], rfl, ⟨rfl, trivial⟩, trivial⟩
  refine vc_sound hE 20 _ _ _ 30 ?_
  rfl

def sLaw5 : Spec := fun args h nx K => ∃ (a : Int) (b : Option Addr) (len cap : Nat) (f : Nat → Int), args = [.int .u8 a, .slice 2000 0 len cap] ∧ fd 2000 (roH h) = .ro b len 1 (g1 .u8 f) ∧ (0 ≤ a ∧ a ≤ 255) ∧ (∀ i, i < len → 0 ≤ f i ∧ f i ≤ 255) ∧ len ≤ 9223372036854775807 ∧ K (.ret (.bool true)) h nx
theorem sLaw5_ok : SpecOK Try.prog 5 sLaw5 := by
  refine specOK_read (fn := Try.f5) rfl rfl rfl T_ok (SP := SPR) spr 0 _ ?_
  rintro args h nx K ⟨a, b, len, cap, f, rfl, e, ha, hf, hlen, hk⟩
  refine ⟨[(2000, .ro b len 1 (g1 .u8 f))], ⟨fun i c hi hc => trivial, trivial⟩, ⟨⟨e, _, _, _, _, rfl⟩, trivial⟩, ⟨trivial, rfl, trivial⟩, by simp [Try.f5], fun o => o = .ret (.bool true), ?_, ?_⟩
  · rintro o rfl
    exact ⟨trivial, hk⟩
  · intro c hc
    obtain ⟨cd, h1, h2⟩ := law5_walk hc ha (b := b) (cap := cap) hf hlen
    cases h1
    exact h2
end Go.Proofs.Ytdjekplkejkgdaa.Sx
