import Derived.Test.YtdjekplkejkgdaaSxL2
/-
  The walks of this seat's laws: RingHeld.
-/
namespace Go.Proofs.Ytdjekplkejkgdaa.Sx
open Go Go.Proofs
set_option maxRecDepth 100000
set_option linter.unusedSimpArgs false
set_option linter.unusedVariables false

/-- The first below j that isn't held; -1: there is none. -/
def firstN (hb : Nat → Bool) : Nat → Int
  | 0 => -1
  | j + 1 => if hb j = false ∧ firstN hb j < 0 then (j : Int) else firstN hb j
theorem firstN_all {hb : Nat → Bool} : ∀ {j : Nat}, firstN hb j < 0 → (∀ i, i < j → hb i = true) ∧ firstN hb j = -1
  | 0, _ => ⟨fun i hi => absurd hi (by omega), rfl⟩
  | j + 1, h => by
    unfold firstN at h ⊢
    by_cases q : hb j = false ∧ firstN hb j < 0
    · rw [if_pos q] at h; omega
    · rw [if_neg q] at h ⊢
      obtain ⟨h1, h2⟩ := firstN_all h
      refine ⟨fun i hi => ?_, h2⟩
      by_cases e : i = j
      · subst e
        cases w : hb i with
        | true => rfl
        | false => exact absurd ⟨w, h⟩ q
      · exact h1 i (by omega)
theorem firstN_some {hb : Nat → Bool} : ∀ {j : Nat}, ¬ firstN hb j < 0 → ∃ k : Nat, firstN hb j = k ∧ k < j ∧ hb k = false ∧ ∀ i, i < k → hb i = true
  | 0, h => absurd (show (-1 : Int) < 0 by decide) h
  | j + 1, h => by
    unfold firstN at h ⊢
    by_cases q : hb j = false ∧ firstN hb j < 0
    · rw [if_pos q]
      exact ⟨j, rfl, by omega, q.1, (firstN_all q.2).1⟩
    · rw [if_neg q] at h ⊢
      obtain ⟨k, h1, h2, h3⟩ := firstN_some h
      exact ⟨k, h1, by omega, h3⟩
theorem lastN_all {H : Nat → Bool} : ∀ {l : List Nat}, (∀ i ∈ l, H i = true) → lastN H l = (0, false)
  | [], _ => rfl
  | x :: l, h => by unfold lastN; rw [if_neg (by rw [h x (by simp)]; decide)]; exact lastN_all fun i hi => h i (by simp [hi])
theorem lastN_some {H : Nat → Bool} {k : Nat} : ∀ {a b : List Nat}, (∀ i ∈ a, H i = true) → H k = false → lastN H (a ++ k :: b) = ((k : Int), true)
  | [], b, _, h => if_pos h
  | x :: a, b, h, hk => by
    show (if H x = false then _ else lastN H (a ++ k :: b)) = _
    rw [if_neg (by rw [h x (by simp)]; decide)]
    exact lastN_some (fun i hi => h i (by simp [hi])) hk
theorem range_split {k n : Nat} (h : k < n) : ∃ l, List.range n = List.range k ++ k :: l := by
  obtain ⟨d, rfl⟩ : ∃ d, n = k + (d + 1) := ⟨n - (k + 1), by omega⟩
  rw [List.range_add, List.range_succ_eq_map, List.map_cons]
  exact ⟨_, rfl⟩

/-- The shelf behind j of n steps. -/
structure HS (m : Md) (n j : Nat) (hb : Nat → Bool) : Prop where
  n : m.n = n
  l0 : m.L 0 = (List.range j).reverse
  l1 : m.L 1 = []
  H : ∀ i, m.H i = (decide (i < j) && hb i)
theorem HS.front {m : Md} {n j : Nat} {hb : Nat → Bool} (h : HS m n j hb) (hj : j < n) : (m.frontI 0 j).n = n ∧ (m.frontI 0 j).L 0 = (List.range (j + 1)).reverse ∧ (m.frontI 0 j).L 1 = [] ∧ (m.frontI 0 j).H = m.H := by
  have hr : rightB 0 = true ∧ m.isN j = true := ⟨rfl, by unfold Md.isN; rw [h.n]; simp only [Bool.and_eq_true, decide_eq_true_eq]; omega⟩
  have e : m.frontI 0 j = m.front 0 j := by unfold Md.frontI; rw [if_pos hr]; rfl
  have h0 : j ∉ m.L 0 := by rw [h.l0]; simp
  have h1 : j ∉ m.L 1 := by rw [h.l1]; simp
  have ho : m.out j = m := out_no (by unfold Md.at; rw [if_neg h0, if_neg h1])
  rw [e]
  unfold Md.front
  rw [ho, Md.set_at, Md.set_ne (by decide)]
  exact ⟨h.n, by rw [h.l0, List.range_succ]; simp, h.l1, rfl⟩
theorem HS.lies {m : Md} {n j : Nat} {hb : Nat → Bool} (h : HS m n j hb) (hj : j < n) : (m.frontI 0 j).lies j = 0 := by
  obtain ⟨h1, h2, h3, h4⟩ := h.front hj
  have hat : (m.frontI 0 j).at j = some 0 := by unfold Md.at; rw [if_pos (by rw [h2]; simp)]
  unfold Md.lies
  rw [if_neg (by unfold Md.isN; rw [h1]; simp; omega), Int.toNat_natCast, hat, if_neg (by simp)]
theorem HS.step {m : Md} {n j : Nat} {hb : Nat → Bool} (h : HS m n j hb) (hj : j < n) : HS (if hb j = true then (m.frontI 0 j).holdI j true else m.frontI 0 j) n (j + 1) hb := by
  obtain ⟨h1, h2, h3, h4⟩ := h.front hj
  split
  · rename_i e
    have e2 : (m.frontI 0 j).holdI j true = { m.frontI 0 j with H := updB (m.frontI 0 j).H j true } := by unfold Md.holdI; rw [if_pos (h.lies hj)]; rfl
    rw [e2]
    refine ⟨h1, h2, h3, fun i => ?_⟩
    show updB (m.frontI 0 j).H j true i = _
    unfold updB
    by_cases q : i = j
    · subst q; rw [if_pos rfl, e]; simp
    · rw [if_neg q, h4, h.H]
      congr 1
      apply decide_eq_decide.2
      omega
  · rename_i e
    have e : hb j = false := by simpa using e
    refine ⟨h1, h2, h3, fun i => ?_⟩
    rw [h4, h.H]
    by_cases q : i = j
    · subst q; rw [e]; simp
    · congr 1
      apply decide_eq_decide.2
      omega
/-- Those that are held, rising. -/
def heldB (hb : Nat → Bool) (j : Nat) : List Nat := (List.range j).filter hb
theorem heldB_yes {hb : Nat → Bool} {j : Nat} (h : hb j = true) : heldB hb (j + 1) = heldB hb j ++ [j] := by simp [heldB, List.range_succ, h]
theorem heldB_no {hb : Nat → Bool} {j : Nat} (h : hb j = false) : heldB hb (j + 1) = heldB hb j := by simp [heldB, List.range_succ, h]
theorem heldB_len {hb : Nat → Bool} {j : Nat} : (heldB hb j).length ≤ j := by have := List.length_filter_le hb (List.range j); simpa [heldB] using this
theorem HS.held {m : Md} {n : Nat} {hb : Nat → Bool} (h : HS m n n hb) : m.held = heldB hb n := by
  unfold Md.held heldB
  rw [h.n]
  exact List.filter_congr fun i hi => by rw [h.H]; simp [List.mem_range.1 hi]
theorem HS.last {m : Md} {n : Nat} {hb : Nat → Bool} (h : HS m n n hb) : m.lastI 0 = if firstN hb n < 0 then (0, false) else (firstN hb n, true) := by
  unfold Md.lastI
  rw [if_pos (show rightB 0 = true from rfl)]
  show lastN m.H (m.L 0).reverse = _
  rw [h.l0, List.reverse_reverse]
  by_cases q : firstN hb n < 0
  · rw [if_pos q, lastN_all]
    intro i hi
    rw [h.H, (firstN_all q).1 i (List.mem_range.1 hi)]
    simpa using hi
  · obtain ⟨k, e, hk, h1, h2⟩ := firstN_some q
    obtain ⟨tl, htl⟩ := range_split hk
    rw [if_neg q, e, htl, lastN_some (fun i hi => ?_) (by rw [h.H, h1]; simp)]
    have hi := List.mem_range.1 hi
    rw [h.H, h2 i hi]
    simp; omega
theorem HS.drop {m : Md} {n k : Nat} {hb : Nat → Bool} (h : HS m n n hb) (hk : k < n) (hf : hb k = false) : m.lies k = 0 ∧ (m.dropI k).held = heldB hb n ∧ (m.dropI k).whI k = (0, false, false) ∧ (m.dropI k).lenI 0 = (n : Int) - 1 ∧ (m.dropI k).n = n := by
  have hm0 : k ∈ m.L 0 := by rw [h.l0]; simp [hk]
  have hat : m.at k = some 0 := by unfold Md.at; rw [if_pos hm0]
  have hN : m.isN k = true := by unfold Md.isN; rw [h.n]; simp; omega
  have hl : m.lies k = 0 := by
    unfold Md.lies
    rw [if_neg (by rw [hN]; decide), Int.toNat_natCast, hat, if_neg (by simp)]
  have ho : m.out k = m.set 0 ((m.L 0).erase k) := by unfold Md.out; rw [hat]
  have hd : m.dropI k = { m.set 0 ((m.L 0).erase k) with H := updB m.H k false } := by unfold Md.dropI; rw [if_pos hl, Int.toNat_natCast, ho]
  have hnd : (m.L 0).Nodup := by rw [h.l0]; exact List.pairwise_reverse.2 (List.nodup_range.imp fun h => Ne.symm h)
  rw [hd]
  refine ⟨hl, ?_, ?_, ?_, h.n⟩
  · rw [← h.held]
    unfold Md.held
    refine List.filter_congr fun i hi => ?_
    show updB m.H k false i = m.H i
    unfold updB
    split
    · rename_i q; subst q; rw [h.H, hf]; simp
    · rfl
  · have hat2 : ({ m.set 0 ((m.L 0).erase k) with H := updB m.H k false } : Md).at k = none := by
      unfold Md.at
      rw [if_neg, if_neg]
      · show k ∉ (m.set 0 ((m.L 0).erase k)).L 1
        rw [Md.set_ne (by decide), h.l1]; simp
      · show k ∉ (m.set 0 ((m.L 0).erase k)).L 0
        rw [Md.set_at]
        exact List.Nodup.not_mem_erase hnd
    unfold Md.whI
    rw [if_neg]
    unfold Md.lies
    rw [if_neg (by show ¬ m.isN k = false; rw [hN]; decide), Int.toNat_natCast, hat2, if_pos rfl]
    decide
  · unfold Md.lenI Md.listI
    rw [if_pos (show rightB 0 = true from rfl)]
    show (((m.set 0 ((m.L 0).erase k)).L 0).length : Int) = _
    rw [Md.set_at, List.length_erase_of_mem hm0, h.l0]
    simp; omega

def SPH : SpT := [(8, sAwake), (9, mNew), (15, mWhere), (17, mLast), (18, mHeld), (19, mLen), (20, mFront), (22, sInts), (23, mHold), (24, mDrop)]
theorem sph : ∀ p ∈ SPH, SpecOK Try.prog p.1 p.2 := consSP sAwake_ok (consSP mNew_ok (consSP mWhere_ok (consSP mLast_ok (consSP mHeld_ok (consSP mLen_ok (consSP mFront_ok (consSP sInts_ok (consSP mHold_ok (consSP mDrop_ok noSP)))))))))

/-- Is node i to be held? -/
def hbF (len : Nat) (f : Nat → Bool) (i : Nat) : Bool := decide (i < len) && f i
abbrev H6 (bS bA : Nat) (s : Sh) (b : Option Addr) (len : Nat) (f : Nat → Bool) (e : Ent) : Hp := [(1, eS bS s), (2, eA bA s), (2000, .ro b len 1 (gb f)), (3, e)]
abbrev S6 (len cap n : Nat) (l : List Int) (cp : Nat) (x : Int) (j : Nat) : Sl := [(1, .slice 2000 0 len cap), (5, .int .i64 n), (6, .ptr 1 0 0), (8, .slice 3 0 l.length cp), (9, .int .i64 x), (10, .int .i64 j)]

theorem law6_walk {c : Cx} (hc : c.P = Try.prog) {a : Int} (ha : 0 ≤ a ∧ a ≤ 255) {b : Option Addr} {len cap : Nat} {f : Nat → Bool} (hlen : len ≤ 9223372036854775807) :
    ∃ cd, Try.f6.body = some cd ∧ W ⟨c, Try.f6, T, SPH, fun o _ _ => o = .ret (.bool true)⟩ [.code cd] (argsS [.int .u8 a, .slice 2000 0 len cap] 0) [(2000, .ro b len 1 (gb f))] 0 := by
  refine ⟨_, rfl, ?_⟩
  have hE := mkE' (fn := Try.f6) (R := fun o _ _ => o = .ret (.bool true)) hc sph
  have ew : ∀ {τ : Nat → Nat} {h' : Hp}, wkE τ h' (.ro b len 1 (gb f)) (.ro b len 1 (gb f)) := ⟨rfl, rfl, rfl, fun i c hi hc => rfl⟩
  refine W_seq (nx := 0) ?_
  refine W_to (nx := 0) [(0, .int .u8 a), (1, .slice 2000 0 len cap)] [(2000, .ro b len 1 (gb f))] 30 ?_ ?_
  · refine vc_sound hE 20 _ _ _ 30 ?_
    exact ⟨tau [], rfl, (by repeat' (first | exact rfl | exact trivial | assumption | refine ⟨?_, ?_⟩)), ew, trivial⟩
  refine W_seq (nx := 30) ?_
  refine W_to (nx := 30) [(0, .int .u8 a), (1, .slice 2000 0 len cap)] [(2000, .ro b len 1 (gb f))] 30 ?_ ?_
  · refine vc_sound hE 20 _ _ _ 30 ?_
    refine ⟨rfl, ?_⟩
    exact ⟨tau [], rfl, (by repeat' (first | exact rfl | exact trivial | assumption | refine ⟨?_, ?_⟩)), ew, trivial⟩
  obtain ⟨n, hn, hn1, hn2⟩ : ∃ n : Nat, IntKind.i64.wrap (1 + (IntKind.i64.wrap a).tmod 64) = (n : Int) ∧ 1 ≤ n ∧ n ≤ 64 := by
    have e1 : IntKind.i64.wrap a = a := by simp [IntKind.wrap_i64]; omega
    have e2 : a.tmod 64 = a % 64 := Int.tmod_eq_emod_of_nonneg ha.1
    rw [e1, e2]
    refine ⟨(1 + a % 64).toNat, ?_, ?_, ?_⟩
    · simp [IntKind.wrap_i64]; omega
    · omega
    · omega
  refine W_seq (nx := 30) ?_
  refine W_to (nx := 30) [(1, .slice 2000 0 len cap), (5, .int .i64 n)] [(2000, .ro b len 1 (gb f))] 30 ?_ ?_
  · refine vc_sound hE 30 _ _ _ 30 ?_
    exact ⟨tau [], rfl, (by repeat' (first | exact rfl | exact trivial | assumption | refine ⟨?_, ?_⟩)), ew, trivial⟩
  -- a new shelf
  refine W_seq (nx := 30) ?_
  refine W_ex (nx := 30) (fun (a : Nat × Nat × Sh) => Inv a.2.2 (Md.new n 1) n) (fun a => [(1, .slice 2000 0 len cap), (5, .int .i64 n), (6, .ptr 1 0 0)]) (fun a => [(1, eS a.1 a.2.2), (2, eA a.2.1 a.2.2), (2000, .ro b len 1 (gb f))]) 30 ?_ ?_
  · refine vc_sound hE 30 _ _ _ 30 ?_
    have hmay : mayB n 1 = true := by unfold mayB; simp only [Bool.and_eq_true, decide_eq_true_eq]; omega
    refine ⟨n, 1, rfl, rfl, rfl, fun e => (by rw [hmay] at e; cases e), fun _ bS bA s hN hi => ?_⟩
    exact ⟨(bS, bA, s), hi, tau [(1, 30), (2, 31)], rfl, (by repeat' (first | exact rfl | exact trivial | assumption | refine ⟨?_, ?_⟩)), ⟨eS_wk ⟨rfl, trivial⟩, eA_wk rfl, ew, trivial⟩⟩
  rintro ⟨bS, bA, s⟩ hi
  refine W_seq (nx := 30) ?_
  refine W_to (nx := 30) [(1, .slice 2000 0 len cap), (5, .int .i64 n), (6, .ptr 1 0 0)] [(1, eS bS s), (2, eA bA s), (2000, .ro b len 1 (gb f))] 30 ?_ ?_
  · refine vc_sound hE 30 _ _ _ 30 ?_
    exact ⟨tau [], rfl, (by repeat' (first | exact rfl | exact trivial | assumption | refine ⟨?_, ?_⟩)), eS_wk ⟨rfl, trivial⟩, eA_wk rfl, ew, trivial⟩
  refine W_seq (nx := 30) ?_
  refine W_to (nx := 30) [(1, .slice 2000 0 len cap), (5, .int .i64 n), (6, .ptr 1 0 0), (8, .nils)] [(1, eS bS s), (2, eA bA s), (2000, .ro b len 1 (gb f))] 30 ?_ ?_
  · refine vc_sound hE 30 _ _ _ 30 ?_
    exact ⟨tau [], rfl, (by repeat' (first | exact rfl | exact trivial | assumption | refine ⟨?_, ?_⟩)), eS_wk ⟨rfl, trivial⟩, eA_wk rfl, ew, trivial⟩
  refine W_nil (σ' := [(1, .slice 2000 0 len cap), (5, .int .i64 n), (6, .ptr 1 0 0), (8, .slice 3 0 0 0)]) 3 rfl ⟨tell_slice rfl, tell_flat trivial, tell_ptr rfl, tell_nil rfl, trivial⟩ (nx' := 30) ?_
  refine W_seq (nx := 30) ?_
  refine W_to (nx := 30) [(1, .slice 2000 0 len cap), (5, .int .i64 n), (6, .ptr 1 0 0), (8, .slice 3 0 0 0), (9, .int .i64 (-1))] (H6 bS bA s b len f (.ro none 0 1 (gl []))) 30 ?_ ?_
  · refine vc_sound hE 30 _ _ _ 30 ?_
    exact ⟨tau [], rfl, (by repeat' (first | exact rfl | exact trivial | assumption | refine ⟨?_, ?_⟩)), eS_wk ⟨rfl, trivial⟩, eA_wk rfl, ew, ⟨rfl, rfl, rfl, fun i c hi => by omega⟩, trivial⟩
  -- node by node
  refine W_seq (nx := 30) ?_
  refine W_ex (nx := 30) (fun (a : Sh × Md × Ent × Nat) => Inv a.1 a.2.1 a.2.1.n ∧ HS a.2.1 n n (hbF len f) ∧ lstE a.2.2.1 (cI (heldB (hbF len f) n)) a.2.2.2) (fun a => [(5, .int .i64 n), (6, .ptr 1 0 0), (8, .slice 3 0 (cI (heldB (hbF len f) n)).length a.2.2.2), (9, .int .i64 (firstN (hbF len f) n))]) (fun a => [(1, eS bS a.1), (2, eA bA a.1), (3, a.2.2.1)]) 30 ?_ ?_
  · refine vc_sound hE 8 _ _ _ 30 ?_
    refine W_loop (fun r σ h => ∃ (j : Nat) (s : Sh) (m : Md) (e : Ent) (cp : Nat), r = n - j ∧ j ≤ n ∧ Inv s m m.n ∧ HS m n j (hbF len f) ∧ lstE e (cI (heldB (hbF len f) j)) cp ∧ σ = S6 len cap n (cI (heldB (hbF len f) j)) cp (firstN (hbF len f) j) j ∧ h = H6 bS bA s b len f e)
      n ⟨0, s, Md.new n 1, _, 0, rfl, by omega, hi, ⟨rfl, rfl, rfl, fun i => rfl⟩, .inl ⟨rfl, rfl, rfl⟩, rfl, rfl⟩ (tau []) ⟨rfl, (by repeat' (first | exact rfl | exact trivial | assumption | refine ⟨?_, ?_⟩)), eS_wk ⟨rfl, trivial⟩, eA_wk rfl, ew, ⟨rfl, rfl, rfl, fun i c hi => by omega⟩, trivial⟩ 30 ?_
    clear hi s
    rintro r σ h ⟨j, s, m, e, cp, rfl, hj, hi, hs, hl, rfl, rfl⟩
    have hll := heldB_len (hb := hbF len f) (j := j)
    have hlv : ∀ (s : Sh) e', e'.here → live (H6 bS bA s b len f e') 3 := fun _ e' h => h
    refine vc_sound hE 1 _ _ _ 30 ?_
    refine W_piece (nx := 30) (fun σ1 h1 _ => j < n ∧ ∃ τ, wk τ σ1 h1 (S6 len cap n (cI (heldB (hbF len f) j)) cp (firstN (hbF len f) j) j) (H6 bS bA s b len f e)) ?_ ?_
    · refine vc_sound hE 60 _ _ _ 30 ?_
      have hl3 := hlv s e (lst_live hl)
      have hl4 : live [(1, eS bS s), (2, eA bA s), (3, e)] 3 := lst_live hl
      (refine (?_ : br _ _ _); refine br_dec (fun q => ?_) (fun q => ?_))
      · have q : (j : Int) < n := q
        exact ⟨by omega, tau [], rfl, (by repeat' (first | exact rfl | exact trivial | assumption | refine ⟨?_, ?_⟩)), eS_wk ⟨rfl, trivial⟩, eA_wk rfl, ew, lst_wk hl _ _, trivial⟩
      · have q : ¬ (j : Int) < n := q
        obtain rfl : j = n := by omega
        exact ⟨(s, m, e, cp), ⟨hi, hs, hl⟩, tau [], rfl, (by repeat' (first | exact rfl | exact trivial | assumption | refine ⟨?_, ?_⟩)), eS_wk ⟨rfl, trivial⟩, eA_wk rfl, lst_wk hl _ _, trivial⟩
    rintro σ1 h1 _ ⟨hjn, τ1, hw1⟩
    refine W_weak (nx' := 30) τ1 hw1 ?_
    clear hw1 σ1 h1 τ1
    refine vc_sound hE 2 _ _ _ 30 ?_
    -- it is put in front
    refine W_seq (nx := 30) ?_
    refine W_ex (nx := 30) (fun (s' : Sh) => Inv s' (m.frontI 0 j) (m.frontI 0 j).n) (fun _ => S6 len cap n (cI (heldB (hbF len f) j)) cp (firstN (hbF len f) j) j) (fun s' => H6 bS bA s' b len f e) 30 ?_ ?_
    · refine vc_sound hE 60 _ _ _ 30 ?_
      refine ⟨_, m, 0, j, rfl, hi.mut rfl rfl fun s' hN hi' => ?_⟩
      have hl3 := hlv s' e (lst_live hl)
      exact ⟨s', hi', tau [], rfl, (by repeat' (first | exact rfl | exact trivial | assumption | refine ⟨?_, ?_⟩)), eS_wk ⟨rfl, trivial⟩, eA_wk hN, ew, lst_wk hl _ _, trivial⟩
    clear hi s
    intro s hi
    -- held, or not
    refine W_ex (nx := 30) (fun (a : Sh × Md × Ent × Nat) => Inv a.1 a.2.1 a.2.1.n ∧ HS a.2.1 n (j + 1) (hbF len f) ∧ lstE a.2.2.1 (cI (heldB (hbF len f) (j + 1))) a.2.2.2) (fun a => S6 len cap n (cI (heldB (hbF len f) (j + 1))) a.2.2.2 (firstN (hbF len f) (j + 1)) j) (fun a => H6 bS bA a.1 b len f a.2.2.1) 30 ?_ ?_
    · have hst := hs.step hjn
      have no : hbF len f j = false → ∃ a : Sh × Md × Ent × Nat, (Inv a.1 a.2.1 a.2.1.n ∧ HS a.2.1 n (j + 1) (hbF len f) ∧ lstE a.2.2.1 (cI (heldB (hbF len f) (j + 1))) a.2.2.2) ∧ a = (s, m.frontI 0 j, e, cp) := fun q => ⟨_, ⟨hi, by rw [q, if_neg (by decide)] at hst; exact hst, by rw [heldB_no q]; exact hl⟩, rfl⟩
      have hl3 := hlv s e (lst_live hl)
      have fin : ∀ (x : Int) σ1 h1, x = firstN (hbF len f) (j + 1) → hbF len f j = false → wk (tau []) σ1 h1 (S6 len cap n (cI (heldB (hbF len f) j)) cp x j) (H6 bS bA s b len f e) → ∃ a : Sh × Md × Ent × Nat, (Inv a.1 a.2.1 a.2.1.n ∧ HS a.2.1 n (j + 1) (hbF len f) ∧ lstE a.2.2.1 (cI (heldB (hbF len f) (j + 1))) a.2.2.2) ∧ ∃ τ, wk τ σ1 h1 (S6 len cap n (cI (heldB (hbF len f) (j + 1))) a.2.2.2 (firstN (hbF len f) (j + 1)) j) (H6 bS bA a.1 b len f a.2.2.1) := by
        rintro x σ1 h1 rfl q hw
        obtain ⟨a, h1, rfl⟩ := no q
        exact ⟨_, h1, _, by rw [heldB_no q]; exact hw⟩
      have hz : addI 0 j = j := by rw [addI_eq, Nat.zero_add]
      have tail : hbF len f j = false → ∀ (x : Int), x = firstN (hbF len f) j → firstN (hbF len f) (j + 1) = if x < 0 then (j : Int) else x := by
        rintro q x rfl
        show (if hbF len f j = false ∧ firstN (hbF len f) j < 0 then (j : Int) else firstN (hbF len f) j) = _
        by_cases w : firstN (hbF len f) j < 0
        · rw [if_pos ⟨q, w⟩, if_pos w]
        · rw [if_neg (fun z => w z.2), if_neg w]
      generalize hx : firstN (hbF len f) j = x at hl3 fin tail ⊢
      refine vc_sound hE 100 _ _ _ 30 ?_
      (refine (?_ : br _ _ _); refine br_dec (fun q => ?_) (fun q => ?_))
      · have q : (j : Int) < len := q
        (refine (?_ : chk _ _); refine chk_ok (show (decide ((0 : Int) ≤ (j : Int)) && decide ((j : Int) < (len : Int))) = true by simp only [Bool.and_eq_true, decide_eq_true_eq]; omega) ?_)
        (refine (?_ : chk _ _); refine chk_ok rfl ?_)
        (refine (?_ : chk _ _); refine chk_ok (Nat.ble_eq_true_of_le (show addI 0 j * 1 + 0 + 1 ≤ len * 1 by rw [hz]; omega)) ?_)
        (refine (?_ : br _ _ _); refine br_both (fun q => ?_) (fun q => ?_))
        · have q2 : f (addI 0 j) = true := q
          rw [hz] at q2
          have hb1 : hbF len f j = true := by unfold hbF; rw [q2, decide_eq_true (by omega)]; rfl
          rw [hb1, if_pos rfl] at hst
          have hx1 : firstN (hbF len f) (j + 1) = x := by rw [← hx]; show (if hbF len f j = false ∧ _ then _ else _) = _; rw [if_neg (fun z => by rw [hb1] at z; cases z.1)]
          have hy := heldB_yes hb1
          have hyI : cI (heldB (hbF len f) j) ++ [(j : Int)] = cI (heldB (hbF len f) (j + 1)) := by rw [hy]; simp [cI]
          refine ⟨_, m.frontI 0 j, j, true, rfl, hi.mut rfl rfl fun s2 hN hi2 => ?_⟩
          intro b1
          refine putS_some rfl ?_
          refine vc_app (v := .slice 3 0 (cI (heldB (hbF len f) j)).length cp) (u := .slice 30 0 1 1) rfl rfl ?_
          refine app_one intT hl rfl (x := (j : Int)) (.inr ⟨30, 0, 1, _, 1, _, rfl, rfl, Nat.le_refl _, fun i hi => (by obtain rfl : i = 0 := (by simpa using hi); rfl)⟩) rfl (by rw [cI_len]; omega) (fun e' hl' => ?_) (fun e' cp' hl' => ?_)
          · rw [hyI] at hl' ⊢
            have hl5 := hlv s2 e' (lst_live hl')
            exact ⟨(s2, (m.frontI 0 j).holdI j true, e', cp), ⟨hi2, hst, hl'⟩, tau [], rfl, by rw [hx1]; exact (by repeat' (first | exact rfl | exact trivial | assumption | refine ⟨?_, ?_⟩)), eS_wk ⟨rfl, trivial⟩, eA_wk hN, ew, lst_wk hl' _ _, trivial⟩
          · rw [hyI] at hl' ⊢
            have hl5 := hlv s2 e' (lst_live hl')
            exact ⟨(s2, (m.frontI 0 j).holdI j true, e', cp'), ⟨hi2, hst, hl'⟩, tau [(3, 31)], rfl, by rw [hx1]; exact (by repeat' (first | exact rfl | exact trivial | assumption | refine ⟨?_, ?_⟩)), eS_wk ⟨rfl, trivial⟩, eA_wk hN, ew, lst_wk hl' _ _, trivial⟩
        · have q2 : f (addI 0 j) = false := q
          rw [hz] at q2
          have hb0 : hbF len f j = false := by unfold hbF; rw [q2, Bool.and_false]
          have ht := tail hb0 x rfl
          (refine (?_ : br _ _ _); refine br_dec (fun q => ?_) (fun q => ?_))
          · rw [if_pos q] at ht
            exact fin _ _ _ ht.symm hb0 ⟨rfl, (by repeat' (first | exact rfl | exact trivial | assumption | refine ⟨?_, ?_⟩)), eS_wk ⟨rfl, trivial⟩, eA_wk rfl, ew, lst_wk hl _ _, trivial⟩
          · rw [if_neg q] at ht
            exact fin _ _ _ ht.symm hb0 ⟨rfl, (by repeat' (first | exact rfl | exact trivial | assumption | refine ⟨?_, ?_⟩)), eS_wk ⟨rfl, trivial⟩, eA_wk rfl, ew, lst_wk hl _ _, trivial⟩
      · have q : ¬ (j : Int) < len := q
        have hb0 : hbF len f j = false := by unfold hbF; rw [decide_eq_false (by omega), Bool.false_and]
        have ht := tail hb0 x rfl
        (refine (?_ : br _ _ _); refine br_dec (fun q => ?_) (fun q => ?_))
        · rw [if_pos q] at ht
          exact fin _ _ _ ht.symm hb0 ⟨rfl, (by repeat' (first | exact rfl | exact trivial | assumption | refine ⟨?_, ?_⟩)), eS_wk ⟨rfl, trivial⟩, eA_wk rfl, ew, lst_wk hl _ _, trivial⟩
        · rw [if_neg q] at ht
          exact fin _ _ _ ht.symm hb0 ⟨rfl, (by repeat' (first | exact rfl | exact trivial | assumption | refine ⟨?_, ?_⟩)), eS_wk ⟨rfl, trivial⟩, eA_wk rfl, ew, lst_wk hl _ _, trivial⟩
    clear hl hs hi s hll
    rintro ⟨s, m2, e2, cp2⟩ ⟨hi, hs, hl⟩
    have hi : Inv s m2 m2.n := hi
    have hl3 := hlv s e2 (lst_live hl)
    refine vc_sound hE 60 _ _ _ 30 ?_
    have hw : IntKind.i64.wrap ((j : Int) + 1) = ((j + 1 : Nat) : Int) := by simp [IntKind.wrap_i64]; omega
    exact ⟨n - (j + 1), _, _, by omega, ⟨j + 1, s, m2, e2, cp2, rfl, by omega, hi, hs, hl, rfl, rfl⟩, tau [], rfl, (by repeat' (first | exact rfl | exact trivial | assumption | refine ⟨?_, ?_⟩)), eS_wk ⟨rfl, trivial⟩, eA_wk rfl, ew, lst_wk hl _ _, trivial⟩
  -- the last one that isn't held
  clear hi s
  rintro ⟨s, m, e, cp⟩ ⟨hi, hs, hl⟩
  have hi : Inv s m m.n := hi
  have hs : HS m n n (hbF len f) := hs
  have hl : lstE e (cI (heldB (hbF len f) n)) cp := hl
  have hlen1 : (cI (heldB (hbF len f) n)).length ≤ n := by rw [cI_len]; exact heldB_len
  obtain ⟨lx, hlx⟩ : ∃ lx, lx = m.lastI 0 := ⟨_, rfl⟩
  refine W_seq (nx := 30) ?_
  refine W_to (nx := 30) [(5, .int .i64 n), (6, .ptr 1 0 0), (8, .slice 3 0 (cI (heldB (hbF len f) n)).length cp), (9, .int .i64 (firstN (hbF len f) n)), (11, .int .i64 lx.1), (12, .bool lx.2)] [(1, eS bS s), (2, eA bA s), (3, e)] 30 ?_ ?_
  · have hl4 : live [(1, eS bS s), (2, eA bA s), (3, e)] 3 := lst_live hl
    refine vc_sound hE 60 _ _ _ 30 ?_
    refine ⟨_, m, 0, rfl, hi.mS rfl rfl, ?_⟩
    rw [← hlx]
    exact ⟨tau [], rfl, (by repeat' (first | exact rfl | exact trivial | assumption | refine ⟨?_, ?_⟩)), eS_wk ⟨rfl, trivial⟩, eA_wk rfl, lst_wk hl _ _, trivial⟩
  rw [hs.last] at hlx
  by_cases hneg : firstN (hbF len f) n < 0
  · -- all are held
    rw [if_pos hneg] at hlx
    subst hlx
    refine vc_sound hE 100 _ _ _ 30 ?_
    (refine (?_ : br _ _ _); refine br_decT hneg ?_)
    refine ⟨_, m, rfl, hi.mS rfl rfl, rfl, fun e1 cp1 hl1 => ?_⟩
    refine ⟨_, _, cI m.held, cI (heldB (hbF len f) n), rfl, hl1.rd rfl, hl.rd rfl, by rw [hs.held]; omega, by omega, ?_⟩
    rw [decide_eq_true (show cI m.held = cI (heldB (hbF len f) n) by rw [hs.held])]
    rfl
  · obtain ⟨k, hk, hkn, hk0, _⟩ := firstN_some hneg
    rw [if_neg hneg] at hlx
    subst hlx
    obtain ⟨d1, d2, d3, d4, d5⟩ := hs.drop hkn hk0
    rw [hk]
    refine W_seq (nx := 30) ?_
    refine W_to (nx := 30) [(5, .int .i64 n), (6, .ptr 1 0 0), (8, .slice 3 0 (cI (heldB (hbF len f) n)).length cp), (9, .int .i64 k), (11, .int .i64 k), (12, .bool true)] [(1, eS bS s), (2, eA bA s), (3, e)] 30 ?_ ?_
    · have hl4 : live [(1, eS bS s), (2, eA bA s), (3, e)] 3 := lst_live hl
      refine vc_sound hE 60 _ _ _ 30 ?_
      exact ⟨tau [], rfl, (by repeat' (first | exact rfl | exact trivial | assumption | refine ⟨?_, ?_⟩)), eS_wk ⟨rfl, trivial⟩, eA_wk rfl, lst_wk hl _ _, trivial⟩
    refine W_seq (nx := 30) ?_
    refine W_ex (nx := 30) (fun (s' : Sh) => Inv s' (m.dropI k) (m.dropI k).n) (fun _ => [(5, .int .i64 n), (6, .ptr 1 0 0), (8, .slice 3 0 (cI (heldB (hbF len f) n)).length cp), (9, .int .i64 k), (11, .int .i64 k), (12, .bool true)]) (fun s' => [(1, eS bS s'), (2, eA bA s'), (3, e)]) 30 ?_ ?_
    · refine vc_sound hE 60 _ _ _ 30 ?_
      refine ⟨_, m, k, rfl, hi.mut rfl rfl fun s2 hN hi2 => ?_⟩
      have hl4 : live [(1, eS bS s2), (2, eA bA s2), (3, e)] 3 := lst_live hl
      exact ⟨s2, hi2, tau [], rfl, (by repeat' (first | exact rfl | exact trivial | assumption | refine ⟨?_, ?_⟩)), eS_wk ⟨rfl, trivial⟩, eA_wk hN, lst_wk hl _ _, trivial⟩
    intro s hi
    refine W_seq (nx := 30) ?_
    refine W_to (nx := 30) [(5, .int .i64 n), (6, .ptr 1 0 0), (8, .slice 3 0 (cI (heldB (hbF len f) n)).length cp), (9, .int .i64 k), (11, .int .i64 k), (12, .bool true), (14, .bool false), (15, .bool false)] [(1, eS bS s), (2, eA bA s), (3, e)] 30 ?_ ?_
    · have hl4 : live [(1, eS bS s), (2, eA bA s), (3, e)] 3 := lst_live hl
      refine vc_sound hE 60 _ _ _ 30 ?_
      refine ⟨_, m.dropI k, k, rfl, hi.mS rfl rfl, ?_⟩
      rw [d3]
      exact ⟨tau [], rfl, (by repeat' (first | exact rfl | exact trivial | assumption | refine ⟨?_, ?_⟩)), eS_wk ⟨rfl, trivial⟩, eA_wk rfl, lst_wk hl _ _, trivial⟩
    refine vc_sound hE 100 _ _ _ 30 ?_
    (refine (?_ : br _ _ _); refine br_eqT rfl ?_)
    refine ⟨_, m.dropI k, rfl, hi.mS rfl rfl, rfl, fun e1 cp1 hl1 => ?_⟩
    refine ⟨_, _, cI (m.dropI k).held, cI (heldB (hbF len f) n), rfl, hl1.rd rfl, hl.rd rfl, by rw [d2]; omega, by omega, ?_⟩
    rw [decide_eq_true (show cI (m.dropI k).held = cI (heldB (hbF len f) n) by rw [d2])]
    refine ⟨_, m.dropI k, 0, rfl, hi.mS rfl rfl, ?_⟩
    rw [d4]
    show Out.ret (V.bool ((n : Int) - 1 == IntKind.i64.wrap ((n : Int) - 1))) = _
    rw [show IntKind.i64.wrap ((n : Int) - 1) = (n : Int) - 1 by simp only [IntKind.wrap_i64]; omega]
    exact outB (by simp)

def sLaw6 : Spec := fun args h nx K => ∃ (a : Int) (b : Option Addr) (len cap : Nat) (f : Nat → Bool), args = [.int .u8 a, .slice 2000 0 len cap] ∧ fd 2000 (roH h) = .ro b len 1 (gb f) ∧ (0 ≤ a ∧ a ≤ 255) ∧ len ≤ 9223372036854775807 ∧ K (.ret (.bool true)) h nx
theorem sLaw6_ok : SpecOK Try.prog 6 sLaw6 := by
  refine specOK_read (fn := Try.f6) rfl rfl rfl T_ok (SP := SPH) sph 0 _ ?_
  rintro args h nx K ⟨a, b, len, cap, f, rfl, e, ha, hlen, hk⟩
  refine ⟨[(2000, .ro b len 1 (gb f))], ⟨fun i c hi hc => trivial, trivial⟩, ⟨⟨e, _, _, _, _, rfl⟩, trivial⟩, ⟨trivial, rfl, trivial⟩, by simp [Try.f6], fun o => o = .ret (.bool true), ?_, ?_⟩
  · rintro o rfl
    exact ⟨trivial, hk⟩
  · intro c hc
    obtain ⟨cd, h1, h2⟩ := law6_walk hc ha (b := b) (cap := cap) (f := f) hlen
    cases h1
    exact h2
end Go.Proofs.Ytdjekplkejkgdaa.Sx
