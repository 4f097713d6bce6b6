import Derived.Test.YtiihiifcnkfjoaaDoorSxGC
/-
  The document's policy: a new one; how many could go; is a policy told as this one is.
-/
namespace Go.Proofs.YtiihiifcnkfjoaaDoor.Sx
open Go Go.Proofs
set_option maxRecDepth 100000
set_option linter.unusedSimpArgs false
set_option linter.unusedVariables false

def sRNew : Spec := fun args h nx K => ∃ (n b : Nat), args = [.int .i64 n, .int .i64 b] ∧ n ≤ 1000 ∧ fd nx h = .gone ∧ fd (nx + 1) h = .gone ∧ fd (nx + 2) h = .gone ∧ fd (nx + 3) h = .gone ∧
  ∀ bR bH : Nat, K (.ret (.ptr nx 0 0)) ((nx, .blk bR 1 5 (gF n b (nx + 1) 0 0 (nx + 2) 0 0 (nx + 3)) 68) :: (nx + 1, .ro none 0 1 (gl [])) :: (nx + 2, .ro none 0 1 (gl [])) :: (nx + 3, .blk bH n 1 (gb fun _ => false) 4) :: h) (nx + 4)
theorem sRNew_ok : SpecOK Tryd.prog 28 sRNew := by
  refine specOK_gen (fn := Tryd.f28) rfl rfl rfl T_ok (SP := []) noSP _ ?_
  rintro args h nx K ⟨n, b, rfl, hn, g0, g1, g2, g3, hk⟩
  refine ⟨fun t => t, [], [.int .i64 n, .int .i64 b], rfl, fun p hp => absurd hp (by simp), ⟨⟨rfl, rfl⟩, ⟨rfl, rfl⟩, trivial⟩, by simp [Tryd.f28], fun o h1 => ∃ (bR bH : Nat) (g gh : Nat → Nat → V), o = .ret (.ptr 1 0 0) ∧ fd 1 h1 = .blk bR 1 5 g 68 ∧ fd 0 h1 = .blk bH n 1 gh 4 ∧ (∀ c, c < 5 → g 0 c = match c with | 0 => .int .i64 n | 1 => .int .i64 b | 2 => .nils | 3 => .nils | _ => .slice 0 0 n n) ∧ ∀ i, i < n → gh i 0 = .bool false, ?_, ?_⟩
  · rintro o h1 ⟨bR, bH, g, gh, rfl, e1, e2, c1, c2⟩
    have y : ∀ t, tau [(nx, 1), (nx + 1, 5000), (nx + 2, 5001), (nx + 3, 0)] t = if t = nx then 1 else if t = nx + 1 then 5000 else if t = nx + 2 then 5001 else if t = nx + 3 then 0 else t := fun t => by
      have one : ∀ (a b : Nat) (r : List (Nat × Nat)), tau ((a, b) :: r) t = if t = a then b else tau r t := fun a b r => by
        by_cases q : t = a
        · subst q; simp [tau]
        · simp [tau, beq_ne q, q]
      rw [one, one, one, one]; rfl
    have y0 : tau [(nx, 1), (nx + 1, 5000), (nx + 2, 5001), (nx + 3, 0)] nx = 1 := by rw [y, if_pos rfl]
    have y1 : tau [(nx, 1), (nx + 1, 5000), (nx + 2, 5001), (nx + 3, 0)] (nx + 1) = 5000 := by rw [y, if_neg (by omega), if_pos rfl]
    have y2 : tau [(nx, 1), (nx + 1, 5000), (nx + 2, 5001), (nx + 3, 0)] (nx + 2) = 5001 := by rw [y, if_neg (by omega), if_neg (by omega), if_pos rfl]
    have y3 : tau [(nx, 1), (nx + 1, 5000), (nx + 2, 5001), (nx + 3, 0)] (nx + 3) = 0 := by rw [y, if_neg (by omega), if_neg (by omega), if_neg (by omega), if_pos rfl]
    let G2 : Hp := [(nx, .blk bR 1 5 (gF n b (nx + 1) 0 0 (nx + 2) 0 0 (nx + 3)) 68), (nx + 1, .ro none 0 1 (gl [])), (nx + 2, .ro none 0 1 (gl [])), (nx + 3, .blk bH n 1 (gb fun _ => false) 4)]
    have hfd : ∀ (hh : Hp) t, fd t (G2 ++ hh) = if t = nx then .blk bR 1 5 (gF n b (nx + 1) 0 0 (nx + 2) 0 0 (nx + 3)) 68 else if t = nx + 1 then .ro none 0 1 (gl []) else if t = nx + 2 then .ro none 0 1 (gl []) else if t = nx + 3 then .blk bH n 1 (gb fun _ => false) 4 else fd t hh := fun hh t => by
      show fd t ((nx, _) :: (nx + 1, _) :: (nx + 2, _) :: (nx + 3, _) :: hh) = _
      rw [fd_cons, fd_cons, fd_cons, fd_cons]
    have hfd2 : ∀ t, fd t G2 = fd t (G2 ++ []) := fun t => by rw [List.append_nil]
    refine ⟨tau [(nx, 1), (nx + 1, 5000), (nx + 2, 5001), (nx + 3, 0)], G2, _, nx + 4, ⟨fun t ht => ?_, fun t b n sz g ty q => (by cases q), fun t t' ht ht' hne => ?_, fun e he => ?_⟩, hk bR bH⟩
    · have hkeys := memB_iff.1 ht
      simp only [G2, List.map_cons, List.map_nil, List.mem_cons, List.not_mem_nil, or_false] at hkeys
      rcases hkeys with hk | hk | hk | hk
      · rw [hk]
        refine .inr (.inr ⟨bR, 1, 5, g, _, 68, g0, by rw [y0]; exact e1, by rw [hfd2, hfd, if_pos rfl], fun t' b' n' sz' g' ty' q => (by cases q), fun i k hi hk => ?_⟩)
        obtain rfl : i = 0 := by omega
        rw [c1 k hk]
        match k, hk with
        | 0, _ => exact tell_flat trivial
        | 1, _ => exact tell_flat trivial
        | 2, _ => exact tell_nil (by rw [hfd, if_neg (by omega), if_pos rfl])
        | 3, _ => exact tell_nil (by rw [hfd, if_neg (by omega), if_neg (by omega), if_pos rfl])
        | 4, _ => exact tell_slice (by rw [hfd, if_neg (by omega), if_neg (by omega), if_neg (by omega), if_pos rfl, e2]; rfl)
      · rw [hk]; exact .inl ⟨g1, .inr ⟨1, gl [], by rw [hfd2, hfd, if_neg (by omega), if_pos rfl]⟩⟩
      · rw [hk]; exact .inl ⟨g2, .inr ⟨1, gl [], by rw [hfd2, hfd, if_neg (by omega), if_neg (by omega), if_pos rfl]⟩⟩
      · rw [hk]
        refine .inr (.inr ⟨bH, n, 1, gh, _, 4, g3, by rw [y3]; exact e2, by rw [hfd2, hfd, if_neg (by omega), if_neg (by omega), if_neg (by omega), if_pos rfl], fun t' b' n' sz' g' ty' q => (by cases q), fun i k hi hk => ?_⟩)
        obtain rfl : k = 0 := by omega
        rw [c2 i hi]
        exact tell_flat trivial
    · have k1 := memB_iff.1 ht
      have k2 := memB_iff.1 ht'
      simp only [G2, List.map_cons, List.map_nil, List.mem_cons, List.not_mem_nil, or_false] at k1 k2
      rcases k1 with k1 | k1 | k1 | k1 <;> rcases k2 with k2 | k2 | k2 | k2 <;> first | exact absurd (k1.trans k2.symm) hne | (rw [k1, k2]; simp only [y0, y1, y2, y3]; decide)
    · obtain ⟨x, rfl, rx⟩ := he
      exact ⟨x, rfl, tell_ptr (h1 := h1) (by rw [hfd, if_pos rfl, e1]; rfl) x rx⟩
  · intro c hc
    have hE := mkE' (fn := Tryd.f28) (R := fun o h1 _ => ∃ (bR bH : Nat) (g gh : Nat → Nat → V), o = .ret (.ptr 1 0 0) ∧ fd 1 h1 = .blk bR 1 5 g 68 ∧ fd 0 h1 = .blk bH n 1 gh 4 ∧ (∀ c, c < 5 → g 0 c = match c with | 0 => .int .i64 n | 1 => .int .i64 b | 2 => .nils | 3 => .nils | _ => .slice 0 0 n n) ∧ ∀ i, i < n → gh i 0 = .bool false) hc noSP
    refine vc_sound hE 40 _ _ _ 0 ?_
    refine ⟨⟨?_, ?_, ?_⟩, ?_⟩
    · show (0 : Int) ≤ (n : Int); omega
    · exact Int.le_refl _
    · show (n : Int) ≤ 1048576; omega
    intro bH bR
    exact ⟨bR, bH, _, _, rfl, rfl, rfl, fun c hc => by match c, hc with | 0, _ | 1, _ | 2, _ | 3, _ | 4, _ => rfl, fun i hi => rfl⟩

theorem Ok.new {n b : Nat} (h : mayB n b = true) : Ok (Md.new n b) := ⟨_, new_inv h⟩

abbrev nilE : Ent := .ro none 0 1 (gl [])
theorem nilL : lstE nilE [] 0 := .inl ⟨rfl, rfl, rfl⟩
theorem LQ.nil (n b : Int) : LQ nilE nilE nilE 0 0 0 (Pol.new n b) := ⟨nilL, nilL, nilL⟩
def sQNew : Spec := fun args h nx K => ∃ n b : Nat, args = [.int .i64 n, .int .i64 b] ∧ n ≤ 1000 ∧ fd 3000 h = .gone ∧ fd 2000 h = .gone ∧ fd 40 h = .gone ∧ fd 41 h = .gone ∧ fd 2003 h = .gone ∧ fd 42 h = .gone ∧
  ∀ bQ bR bH : Nat, K (.ret (.ptr 3000 0 0)) (HQ bQ bR bH nilE nilE nilE 0 0 0 (Pol.new n b) ++ h) nx
theorem sQNew_ok : SpecOK Tryd.prog 12 sQNew := by
  refine specOK_gen4 (fn := Tryd.f12) rfl rfl rfl T_ok (SP := [(28, sRNew)]) (consSP sRNew_ok noSP) _ ?_
  rintro args h nx K ⟨n, b, rfl, hn, g0, g1, g2, g3, g4, g5, hk⟩
  refine ⟨tau [], [], [.int .i64 n, .int .i64 b], rfl, fun p hp => absurd hp (by simp), ⟨⟨rfl, rfl⟩, ⟨rfl, rfl⟩, trivial⟩, by simp [Tryd.f12], fun o h1 => ∃ (bQ bR bH : Nat) (gq : Nat → Nat → V), o = .ret (.ptr 64 0 0) ∧ fd 64 h1 = .blk bQ 1 5 gq 66 ∧ fd 60 h1 = .blk bR 1 5 (gF n b 61 0 0 62 0 0 63) 68 ∧ fd 61 h1 = nilE ∧ fd 62 h1 = nilE ∧ fd 63 h1 = .blk bH n 1 (gb fun _ => false) 4 ∧
    ∀ c, c < 5 → gq 0 c = match c with | 0 => .ptr 60 0 0 | 1 => .int .i64 0 | 2 => .int .u64 0 | 3 => .int .u64 0 | _ => .nils, ?_, ?_⟩
  · rintro o h1 ⟨bQ, bR, bH, gq, rfl, e1, e2, e3, e4, e5, c1⟩
    refine ⟨tau [(3000, 64), (2000, 60), (40, 5000), (41, 5001), (2003, 63), (42, 5002)], HQ bQ bR bH nilE nilE nilE 0 0 0 (Pol.new n b), _, nx, ⟨fun t ht => ?_, fun t b n sz g ty q => (by cases q), fun t t' ht ht' hne => ?_, fun e he => ?_⟩, hk bQ bR bH⟩
    · have hkeys := memB_iff.1 ht
      simp only [List.map_cons, List.map_nil, List.mem_cons, List.not_mem_nil, or_false] at hkeys
      rcases hkeys with rfl | rfl | rfl | rfl | rfl | rfl
      · refine .inr (.inr (.inl ⟨bQ, 1, 5, gq, _, 66, g0, e1, rfl, fun t' b' n' sz' g' ty' q => (by cases q), fun i k hi hk => ?_⟩))
        obtain rfl : i = 0 := by omega
        rw [c1 k hk]
        match k, hk with
        | 0, _ => exact tell_ptr (by rw [e2]; rfl)
        | 1, _ => exact tell_flat trivial
        | 2, _ => exact tell_flat trivial
        | 3, _ => exact tell_flat trivial
        | 4, _ => exact tell_nil (n := 0) (sz := 1) (g := gl []) rfl
      · refine .inr (.inr (.inl ⟨bR, 1, 5, _, _, 68, g1, e2, rfl, fun t' b' n' sz' g' ty' q => (by cases q), fun i k hi hk => ?_⟩))
        obtain rfl : i = 0 := by omega
        match k, hk with
        | 0, _ => exact tell_flat trivial
        | 1, _ => exact tell_flat trivial
        | 2, _ => exact tell_slice (by rw [e3]; rfl)
        | 3, _ => exact tell_slice (by rw [e4]; rfl)
        | 4, _ => exact tell_slice (by rw [e5]; rfl)
      · exact .inl ⟨g2, .inr ⟨1, gl [], rfl⟩⟩
      · exact .inl ⟨g3, .inr ⟨1, gl [], rfl⟩⟩
      · refine .inr (.inr (.inl ⟨bH, n, 1, _, _, 4, g4, e5, rfl, fun t' b' n' sz' g' ty' q => (by cases q), fun i k hi hk => ?_⟩))
        exact tell_flat trivial
      · exact .inl ⟨g5, .inr ⟨1, gl [], rfl⟩⟩
    · have k1 := memB_iff.1 ht
      have k2 := memB_iff.1 ht'
      simp only [List.map_cons, List.map_nil, List.mem_cons, List.not_mem_nil, or_false] at k1 k2
      rcases k1 with rfl | rfl | rfl | rfl | rfl | rfl <;> rcases k2 with rfl | rfl | rfl | rfl | rfl | rfl <;> first | exact absurd rfl hne | decide
    · obtain ⟨x, rfl, rx⟩ := he
      exact ⟨x, rfl, tell_ptr (h1 := h1) (by rw [e1]; rfl) x rx⟩
  · intro c hc
    have hE := mkE' (fn := Tryd.f12) (R := fun o h1 _ => ∃ (bQ bR bH : Nat) (gq : Nat → Nat → V), o = .ret (.ptr 64 0 0) ∧ fd 64 h1 = .blk bQ 1 5 gq 66 ∧ fd 60 h1 = .blk bR 1 5 (gF n b 61 0 0 62 0 0 63) 68 ∧ fd 61 h1 = nilE ∧ fd 62 h1 = nilE ∧ fd 63 h1 = .blk bH n 1 (gb fun _ => false) 4 ∧
      ∀ c, c < 5 → gq 0 c = match c with | 0 => .ptr 60 0 0 | 1 => .int .i64 0 | 2 => .int .u64 0 | 3 => .int .u64 0 | _ => .nils) hc (SP := [(28, sRNew)]) (consSP sRNew_ok noSP)
    refine vc_sound hE 40 _ _ _ 60 ?_
    refine ⟨n, b, rfl, hn, rfl, rfl, rfl, rfl, fun bR bH => ?_⟩
    intro bQ
    exact ⟨bQ, bR, bH, _, rfl, rfl, rfl, rfl, rfl, rfl, fun c hc => by match c, hc with | 0, _ | 1, _ | 2, _ | 3, _ | 4, _ => rfl⟩

/-! ### How many could go -/
def Pol.goes (p : Pol) (k : Nat) : Bool := p.inB k && !p.m.H k
def Pol.cnt (p : Pol) (i : Nat) : Nat := ((List.range i).filter p.goes).length
theorem cnt_yes {p : Pol} {i : Nat} (h : p.goes i = true) : p.cnt (i + 1) = p.cnt i + 1 := by simp [Pol.cnt, List.range_succ, h]
theorem cnt_no {p : Pol} {i : Nat} (h : p.goes i = false) : p.cnt (i + 1) = p.cnt i := by simp [Pol.cnt, List.range_succ, h]
theorem cnt_le {p : Pol} {i : Nat} : p.cnt i ≤ i := by have := List.length_filter_le p.goes (List.range i); simpa [Pol.cnt] using this
theorem inB_mem {p : Pol} (hok : Ok p.m) {k : Nat} (hk : k < p.m.n) : p.inB k = true ↔ k ∈ p.m.L 0 ++ p.m.L 1 := by
  constructor
  · intro h
    have hl := inB_lies h
    rw [Md.lies_Z (by omega) (by omega)] at hl
    have hz : ¬ p.m.atZ k < 0 := fun w => by rw [if_pos w] at hl; cases hl
    obtain ⟨q, j, hq, e, hj, _⟩ := Md.wh_pos hok hz
    obtain rfl : k = j := by omega
    rw [List.mem_append]
    rcases (show q = 0 ∨ q = 1 by omega) with rfl | rfl
    · exact .inl hj
    · exact .inr hj
  · intro h
    rw [List.mem_append] at h
    have : ∃ q, q < 2 ∧ k ∈ p.m.L q := by rcases h with h | h; exact ⟨0, by omega, h⟩; exact ⟨1, by omega, h⟩
    obtain ⟨q, hq, hm⟩ := this
    cases e : p.inB k with
    | true => rfl
    | false =>
      unfold Pol.inB Md.whI at e
      have hat := mem_at hq hm
      have hl : p.m.lies k = 0 := by
        unfold Md.lies
        rw [if_neg (by unfold Md.isN; simp; omega), if_neg (by rw [Int.toNat_natCast]; exact hat)]
      rw [if_pos hl, Int.toNat_natCast] at e
      cases e2 : p.m.at k with
      | none => exact absurd e2 hat
      | some q' => rw [e2] at e; cases e
theorem room_cnt {p : Pol} (hok : Ok p.m) : ((p.cnt p.m.n : Nat) : Int) = p.roomI := by
  obtain ⟨s, hi⟩ := hok
  have hok : Ok p.m := ⟨s, hi⟩
  have hnd : (p.m.L 0 ++ p.m.L 1).Nodup := hi.nd
  have h1 : ((List.range p.m.n).filter fun k : Nat => p.inB k).Perm (p.m.L 0 ++ p.m.L 1) := by
    refine (List.perm_ext_iff_of_nodup (List.Pairwise.filter _ List.nodup_range) hnd).2 fun k => ?_
    rw [List.mem_filter, List.mem_range]
    constructor
    · rintro ⟨a, b⟩; exact (inB_mem hok a).1 b
    · intro h
      have hk : k < p.m.n := by
        rcases List.mem_append.1 h with w | w
        · exact hi.lt 0 (by omega) k w
        · exact hi.lt 1 (by omega) k w
      exact ⟨hk, (inB_mem hok hk).2 h⟩
  have h2 := h1.length_eq
  have h3 : ∀ i, i ≤ p.m.n → ((List.range i).filter fun k : Nat => p.inB k).length = p.cnt i + ((List.range i).filter fun k => p.m.H k).length := by
    intro i
    induction i with
    | zero => intro _; rfl
    | succ i ih =>
      intro hle
      have ih := ih (by omega)
      have hin : p.m.H i = true → p.inB i = true := fun hH => (inB_mem hok (by omega)).2 (by
        rw [List.mem_append]; exact hi.hin i (by omega) hH (by omega))
      rw [List.range_succ, List.filter_append, List.filter_append, List.length_append, List.length_append, ih]
      unfold Pol.cnt
      rw [List.range_succ, List.filter_append, List.length_append]
      cases ei : p.inB i with
      | true =>
        cases eh : p.m.H i with
        | true => simp [Pol.goes, ei, eh]; omega
        | false => simp [Pol.goes, ei, eh]; omega
      | false =>
        cases eh : p.m.H i with
        | true => rw [hin eh] at ei; cases ei
        | false => simp [Pol.goes, ei, eh]
  have h4 := h3 p.m.n (Nat.le_refl _)
  rw [h2, List.length_append] at h4
  unfold Pol.roomI Md.held
  omega

def SPQR : SpT := [(39, sQIn)]
theorem spqr : ∀ p ∈ SPQR, SpecOK Tryd.prog p.1 p.2 := consSP sQIn_ok noSP
def sQRoom : Spec := fun args h nx K => ∃ (p : Pol), args = [.ptr 3000 0 0] ∧ rQ h p ∧ Ok p.m ∧ K (.ret (.int .i64 p.roomI)) h nx
theorem sQRoom_ok : SpecOK Tryd.prog 17 sQRoom := by
  refine specOK_read2 (fn := Tryd.f17) rfl rfl rfl T_ok (SP := SPQR) spqr 0 _ ?_
  rintro args h nx K ⟨p, rfl, hp, hok, hk⟩
  obtain ⟨bQ, bR, bH, e0, e1, eU, c0, c1, cU, hl, told⟩ := told_q (rest := []) hp trivial
  refine ⟨_, _, told, by simp [Tryd.f17], fun o => o = .ret (.int .i64 p.roomI), ?_, ?_⟩
  · rintro o rfl; exact ⟨trivial, hk⟩
  intro cx hcx
  clear hk told hp
  have hE := mkE' (fn := Tryd.f17) (R := fun o _ _ => o = .ret (.int .i64 p.roomI)) hcx spqr
  have hwk := HQR.wk (bQ := bQ) (bR := bR) (bH := bH) hl
  have hn := hok.n
  refine W_seq (nx := 0) ?_
  refine W_to (nx := 0) [(0, .ptr 3000 0 0)] (HQR bQ bR bH e0 e1 eU c0 c1 cU p) 30 ?_ ?_
  · refine vc_sound hE 20 _ _ _ 30 ?_
    exact ⟨tau [], rfl, (by repeat' (first | exact rfl | exact trivial | assumption | refine ⟨?_, ?_⟩)), hwk⟩
  refine W_seq (nx := 30) ?_
  refine W_to (nx := 30) [(0, .ptr 3000 0 0), (3, .int .i64 ((0 : Nat) : Int))] (HQR bQ bR bH e0 e1 eU c0 c1 cU p) 30 ?_ ?_
  · refine vc_sound hE 20 _ _ _ 30 ?_
    exact ⟨tau [], rfl, (by repeat' (first | exact rfl | exact trivial | assumption | refine ⟨?_, ?_⟩)), hwk⟩
  refine W_seq (nx := 30) ?_
  refine W_to (nx := 30) [(3, .int .i64 ((p.cnt p.m.n : Nat) : Int))] [] 30 ?_ ?_
  · refine vc_sound hE 5 _ _ _ 30 ?_
    refine W_loop (fun r σ h => ∃ i : Nat, r = p.m.n - i ∧ i ≤ p.m.n ∧ σ = [(0, .ptr 3000 0 0), (3, .int .i64 ((p.cnt i : Nat) : Int)), (4, .int .i64 (i : Int))] ∧ h = HQR bQ bR bH e0 e1 eU c0 c1 cU p) p.m.n ⟨0, rfl, by omega, rfl, rfl⟩ (tau []) ⟨rfl, (by repeat' (first | exact rfl | exact trivial | assumption | refine ⟨?_, ?_⟩)), hwk⟩ 30 ?_
    rintro r σ h1 ⟨i, rfl, hi, rfl, rfl⟩
    refine vc_sound hE 60 _ _ _ 30 ?_
    (refine (?_ : br _ _ _); refine br_dec (fun q => ?_) (fun q => ?_))
    · have q1 : (i : Int) < (p.m.n : Int) := q
      have hw : IntKind.i64.wrap ((i : Int) + 1) = ((i + 1 : Nat) : Int) := by simp only [IntKind.wrap_i64]; omega
      have hz : addI 0 ((i : Int)).toNat = i := by rw [Int.toNat_natCast, addI_eq, Nat.zero_add]
      have hcl := cnt_le (p := p) (i := i)
      have hwc : IntKind.i64.wrap (((p.cnt i : Nat) : Int) + 1) = ((p.cnt i + 1 : Nat) : Int) := by simp only [IntKind.wrap_i64]; omega
      refine ⟨p, i, rfl, HQR.r hl, hok, ?_⟩
      (refine (?_ : br _ _ _); refine br_both (fun q => ?_) (fun q => ?_))
      · have q2 : p.inB i = true := q
        (refine (?_ : chk _ _); refine chk_ok (show (decide ((0 : Int) ≤ (i : Int)) && decide ((i : Int) < (p.m.n : Int))) = true by simp only [Bool.and_eq_true, decide_eq_true_eq]; omega) ?_)
        (refine (?_ : chk _ _); refine chk_ok rfl ?_)
        (refine (?_ : chk _ _); refine chk_ok (Nat.ble_eq_true_of_le (show addI 0 ((i : Int)).toNat * 1 + 0 + 1 ≤ p.m.n * 1 by rw [hz]; omega)) ?_)
        (refine (?_ : br _ _ _); refine br_not (br_both (fun q => ?_) (fun q => ?_)))
        · have q3 : p.m.H (addI 0 ((i : Int)).toNat) = true := q
          rw [hz] at q3
          have hg : p.cnt (i + 1) = p.cnt i := cnt_no (by unfold Pol.goes; rw [q2, q3]; rfl)
          exact ⟨p.m.n - (i + 1), _, _, by omega, ⟨i + 1, rfl, by omega, rfl, rfl⟩, tau [], rfl, ⟨⟨⟨rfl, trivial⟩, rfl, rfl⟩, ⟨rfl, by rw [hg]⟩, ⟨rfl, hw⟩, trivial⟩, hwk⟩
        · have q3 : p.m.H (addI 0 ((i : Int)).toNat) = false := q
          rw [hz] at q3
          have hg : p.cnt (i + 1) = p.cnt i + 1 := cnt_yes (by unfold Pol.goes; rw [q2, q3]; rfl)
          exact ⟨p.m.n - (i + 1), _, _, by omega, ⟨i + 1, rfl, by omega, rfl, rfl⟩, tau [], rfl, ⟨⟨⟨rfl, trivial⟩, rfl, rfl⟩, ⟨rfl, by rw [hg]; exact hwc⟩, ⟨rfl, hw⟩, trivial⟩, hwk⟩
      · have q2 : p.inB i = false := q
        have hg : p.cnt (i + 1) = p.cnt i := cnt_no (by unfold Pol.goes; rw [q2]; rfl)
        exact ⟨p.m.n - (i + 1), _, _, by omega, ⟨i + 1, rfl, by omega, rfl, rfl⟩, tau [], rfl, ⟨⟨⟨rfl, trivial⟩, rfl, rfl⟩, ⟨rfl, by rw [hg]⟩, ⟨rfl, hw⟩, trivial⟩, hwk⟩
    · have q1 : ¬ (i : Int) < (p.m.n : Int) := q
      obtain rfl : i = p.m.n := by omega
      exact ⟨tau [], rfl, (by repeat' (first | exact rfl | exact trivial | assumption | refine ⟨?_, ?_⟩)), trivial⟩
  refine vc_sound hE 20 _ _ _ 30 ?_
  exact outI (room_cnt hok)
end Go.Proofs.YtiihiifcnkfjoaaDoor.Sx

/-
  The document's policy: is a policy told as this one is.
-/
namespace Go.Proofs.YtiihiifcnkfjoaaDoor.Sx
open Go Go.Proofs
set_option maxRecDepth 100000
set_option linter.unusedSimpArgs false
set_option linter.unusedVariables false

abbrev polV (l0 l1 l2 : List Int) (d0 d1 d2 : Nat) (fl : List V) : V := .agg (.slice 70 0 l0.length d0 :: .slice 71 0 l1.length d1 :: .slice 72 0 l2.length d2 :: fl)
/-- What Same is handed: the document's policy, and three lists. -/
abbrev HQ3 (bQ bR bH : Nat) (e0 e1 eU f0 f1 f2 : Ent) (c0 c1 cU : Nat) (p : Pol) : Hp := HQR bQ bR bH e0 e1 eU c0 c1 cU p ++ [(70, f0.toRo), (71, f1.toRo), (72, f2.toRo)]
def SPQS : SpT := [(25, sInts), (35, sRHeld)]
theorem spqs : ∀ p ∈ SPQS, SpecOK Tryd.prog p.1 p.2 := consSP sInts_ok (consSP sRHeld_ok noSP)
def sQSame : Spec := fun args h nx K => ∃ (p : Pol) (f0 f1 f2 : Ent) (d0 d1 d2 : Nat), args = [.ptr 3000 0 0, polV (cI (p.m.L 0)) (cI (p.m.L 1)) (cI p.m.held) d0 d1 d2 p.fl] ∧ rQ h p ∧ Ok p.m ∧ lstE f0 (cI (p.m.L 0)) d0 ∧ lstE f1 (cI (p.m.L 1)) d1 ∧ lstE f2 (cI p.m.held) d2 ∧
  fd 70 (roH h) = f0.toRo ∧ fd 71 (roH h) = f1.toRo ∧ fd 72 (roH h) = f2.toRo ∧ K (.ret (.bool true)) h nx
theorem sQSame_ok : SpecOK Tryd.prog 14 sQSame := by
  refine specOK_read2 (fn := Tryd.f14) rfl rfl rfl T_ok (SP := SPQS) spqs 0 _ ?_
  rintro args h nx K ⟨p, f0, f1, f2, d0, d1, d2, rfl, ⟨bQ, bR, bH, e0, e1, eU, c0, c1, cU, hl, q1, q2, q3, q4, q5, q6⟩, hok, k0, k1, k2, r0, r1, r2, hk⟩
  have v0 : live (HQ3 bQ bR bH e0 e1 eU f0 f1 f2 c0 c1 cU p) 40 := hl.l0.ro_live
  have v1 : live (HQ3 bQ bR bH e0 e1 eU f0 f1 f2 c0 c1 cU p) 41 := hl.l1.ro_live
  have v2 : live (HQ3 bQ bR bH e0 e1 eU f0 f1 f2 c0 c1 cU p) 42 := hl.lU.ro_live
  have v3 : live (HQ3 bQ bR bH e0 e1 eU f0 f1 f2 c0 c1 cU p) 70 := k0.ro_live
  have v4 : live (HQ3 bQ bR bH e0 e1 eU f0 f1 f2 c0 c1 cU p) 71 := k1.ro_live
  have v5 : live (HQ3 bQ bR bH e0 e1 eU f0 f1 f2 c0 c1 cU p) 72 := k2.ro_live
  have told : Told h [.ptr 3000 0 0, polV (cI (p.m.L 0)) (cI (p.m.L 1)) (cI p.m.held) d0 d1 d2 p.fl] (HQ3 bQ bR bH e0 e1 eU f0 f1 f2 c0 c1 cU p) [.ptr 3000 0 0, polV (cI (p.m.L 0)) (cI (p.m.L 1)) (cI p.m.held) d0 d1 d2 p.fl] := by
    refine told_wk (tau []) rfl ⟨?_, ?_, ?_, ?_, ?_, ?_, ?_, ?_, ?_, trivial⟩ ⟨⟨⟨rfl, trivial⟩, rfl, rfl⟩, ⟨⟨⟨rfl, v3⟩, rfl, rfl, rfl⟩, ⟨⟨rfl, v4⟩, rfl, rfl, rfl⟩, ⟨⟨rfl, v5⟩, rfl, rfl, rfl⟩, ⟨rfl, rfl⟩, ⟨rfl, rfl⟩, ⟨rfl, rfl⟩, trivial⟩, trivial⟩
    · show wkE _ _ (fd 3000 (roH h)) _
      rw [q1]; exact ⟨rfl, rfl, rfl, fun i c hi hc => by obtain rfl : i = 0 := (by omega); exact gQ_rn ⟨rfl, trivial⟩ ⟨rfl, v2⟩ hc⟩
    · show wkE _ _ (fd 2000 (roH h)) _
      rw [q2]; exact ⟨rfl, rfl, rfl, fun i c hi hc => by obtain rfl : i = 0 := (by omega); exact gF_rn ⟨rfl, v0⟩ ⟨rfl, v1⟩ ⟨rfl, trivial⟩ hc⟩
    · show wkE _ _ (fd 40 (roH h)) _
      rw [q3]; exact hl.l0.ro_wk _ _
    · show wkE _ _ (fd 41 (roH h)) _
      rw [q4]; exact hl.l1.ro_wk _ _
    · show wkE _ _ (fd 2003 (roH h)) _
      rw [q5]; exact ⟨rfl, rfl, rfl, fun i c hi hc => rfl⟩
    · show wkE _ _ (fd 42 (roH h)) _
      rw [q6]; exact hl.lU.ro_wk _ _
    · show wkE _ _ (fd 70 (roH h)) _
      rw [r0]; exact k0.ro_wk _ _
    · show wkE _ _ (fd 71 (roH h)) _
      rw [r1]; exact k1.ro_wk _ _
    · show wkE _ _ (fd 72 (roH h)) _
      rw [r2]; exact k2.ro_wk _ _
  refine ⟨_, _, told, by simp [Tryd.f14], fun o => o = .ret (.bool true), ?_, ?_⟩
  · rintro o rfl; exact ⟨trivial, hk⟩
  intro cx hcx
  clear hk told q1 q2 q3 q4 q5 q6 r0 r1 r2
  have hE := mkE' (fn := Tryd.f14) (R := fun o _ _ => o = .ret (.bool true)) hcx spqs
  have hl0 := hok.len (q := 0) (by omega)
  have hl1 := hok.len (q := 1) (by omega)
  have hn := hok.n
  have hhl : p.m.held.length ≤ 64 := by
    have := List.length_filter_le (fun i => p.m.H i) (List.range p.m.n)
    have h2 : p.m.held.length ≤ p.m.n := by simpa [Md.held] using this
    omega
  refine vc_sound hE 6 _ _ _ 80 ?_
  intro b1
  -- the walk's memory, to a reader
  obtain ⟨M, hM⟩ : ∃ M : Hp, M = roH ((80, Ent.blk b1 1 6 (gOf 6 [.slice 70 0 (cI (p.m.L 0)).length d0, .slice 71 0 (cI (p.m.L 1)).length d1, .slice 72 0 (cI p.m.held).length d2, .int .i64 p.want, .int .u64 p.miss, .int .u64 p.hits]) 39) :: HQ3 bQ bR bH e0 e1 eU f0 f1 f2 c0 c1 cU p) := ⟨_, rfl⟩
  have m40 : fd 40 M = e0.toRo := by rw [hM]; exact toRo_toRo _
  have m41 : fd 41 M = e1.toRo := by rw [hM]; exact toRo_toRo _
  have m70 : fd 70 M = f0.toRo := by rw [hM]; exact toRo_toRo _
  have m71 : fd 71 M = f1.toRo := by rw [hM]; exact toRo_toRo _
  have m72 : fd 72 M = f2.toRo := by rw [hM]; exact toRo_toRo _
  have mr : refR M (.ptr 2000 0 0) p.m := ⟨2000, 40, 41, 2003, bR, bH, e0, e1, c0, c1, _, _, rfl, rfl, by rw [fd_roH, hM]; rfl, fun c hc => rfl, by rw [fd_roH, m40, toRo_toRo], hl.l0, by rw [fd_roH, m41, toRo_toRo], hl.l1, by rw [fd_roH, hM]; rfl, fun i hi => rfl⟩
  have s0 : rdL M (.slice 40 0 (p.m.L 0).length c0) (cI (p.m.L 0)) := by rw [← cI_len (p.m.L 0)]; exact hl.l0.rd2 m40
  have s1 : rdL M (.slice 41 0 (p.m.L 1).length c1) (cI (p.m.L 1)) := by rw [← cI_len (p.m.L 1)]; exact hl.l1.rd2 m41
  have t0 : rdL M (.slice 70 0 (cI (p.m.L 0)).length d0) (cI (p.m.L 0)) := k0.rd2 m70
  have t1 : rdL M (.slice 71 0 (cI (p.m.L 1)).length d1) (cI (p.m.L 1)) := k1.rd2 m71
  have t2 : rdL M (.slice 72 0 (cI p.m.held).length d2) (cI p.m.held) := k2.rd2 m72
  rw [hM] at s0 s1 t0 t1 t2 mr
  refine W_plan hE 81 99 (lineP 0 33 (oneP 33 (lineP 34 30 .done))) (by rw [hcx]; exact mix) (by kernel_rfl) 80 ?_
  iterate 11 (refine ⟨_, ⟨rfl, rfl⟩, ?_⟩)
  refine ⟨.bool true, ⟨_, _, cI (p.m.L 0), cI (p.m.L 0), rfl, t0, s0, by rw [cI_len]; omega, by rw [cI_len]; omega, ⟨congrArg V.bool (decide_eq_true rfl), rfl⟩⟩, ?_⟩
  iterate 12 (refine ⟨_, ⟨rfl, rfl⟩, ?_⟩)
  refine ⟨.bool true, ⟨_, _, cI (p.m.L 1), cI (p.m.L 1), rfl, t1, s1, by rw [cI_len]; omega, by rw [cI_len]; omega, ⟨congrArg V.bool (decide_eq_true rfl), rfl⟩⟩, ?_⟩
  iterate 8 (refine ⟨_, ⟨rfl, rfl⟩, ?_⟩)
  refine ⟨?_, trivial⟩
  refine ⟨_, p.m, rfl, mr, hok, rfl, fun e cp hle => ?_⟩
  refine oneNew_lst hle rfl ?_
  have t2' : rdL (roH ((81, e) :: (80, Ent.blk b1 1 6 (gOf 6 [.slice 70 0 (cI (p.m.L 0)).length d0, .slice 71 0 (cI (p.m.L 1)).length d1, .slice 72 0 (cI p.m.held).length d2, .int .i64 p.want, .int .u64 p.miss, .int .u64 p.hits]) 39) :: HQ3 bQ bR bH e0 e1 eU f0 f1 f2 c0 c1 cU p)) (.slice 72 0 (cI p.m.held).length d2) (cI p.m.held) := k2.rd2 (toRo_toRo _)
  refine ⟨.bool true, ⟨_, _, cI p.m.held, cI p.m.held, rfl, t2', hle.rd2 rfl, by rw [cI_len]; omega, by rw [cI_len]; omega, ⟨congrArg V.bool (decide_eq_true rfl), rfl⟩⟩, ?_⟩
  iterate 11 (refine ⟨_, ⟨rfl, rfl⟩, ?_⟩)
  (refine (?_ : br _ _ _); refine br_eqT rfl ?_)
  iterate 9 (refine ⟨_, ⟨rfl, rfl⟩, ?_⟩)
  (refine (?_ : br _ _ _); refine br_eqT rfl ?_)
  iterate 9 (refine ⟨_, ⟨rfl, rfl⟩, ?_⟩)
  exact outB (by simp)
end Go.Proofs.YtiihiifcnkfjoaaDoor.Sx

/-
  The walks of this seat's functions: step, walked in place.
-/
namespace Go.Proofs.YtiihiifcnkfjoaaDoor.Sx
open Go Go.Proofs
set_option maxRecDepth 100000
set_option linter.unusedSimpArgs false
set_option linter.unusedVariables false

theorem ext_step {h : Hp} {bS bA bP bU bQ bR bH N n nr : Nat} {gs ga gp gu gq gr gh : Nat → Nat → V} {EU E0 E1 EN eU e : Ent} {t0 t1 tU d0 d1 dU : Nat} {s' : Sh} {p' r' : Pol} {l : List Int}
    (f1 : fd 1 h = .blk bS 1 8 gs 84) (f2 : fd 2 h = .blk bA N 5 ga 86) (f8 : fd 8 h = .blk bP 1 8 gp 62) (f9 : fd 9 h = .blk bU n 1 gu 3) (f3 : fd 3000 h = .blk bQ 1 5 gq 66) (f4 : fd 2000 h = .blk bR 1 5 gr 68) (f5 : fd 2003 h = .blk bH nr 1 gh 4) (f6 : fd 42 h = eU) (g0 : fd 50 h = .gone) (g1 : fd 51 h = .gone) (g2 : fd 52 h = .gone) (g9 : fd 90 h = .gone)
    (hr : r'.m.n = nr) (hU : QU tU EU EN eU l dU) : Ext h (GQ bQ bR bH EU E0 E1 EN t0 t1 tU d0 d1 dU r' ++ (GP bS bA bP bU N n s' p' ++ ((90, e) :: h))) := by
  have hEU : EU.rf = eU.rf := by
    rcases hU with ⟨_, _, q | ⟨b, n, g, g', ty, rfl, rfl⟩, _⟩ | ⟨_, rfl, _⟩
    · rw [q]
    · rfl
    · rfl
  have x1 : Ext h ((90, e) :: h) := Ext.new (by rw [g9]; rfl)
  have x2 := x1.trans (Ext.same (t := 9) (e := .blk bU n 1 (gU p') 3) (by show _ = (fd 9 h).rf; rw [f9]; rfl))
  have x3 := x2.trans (Ext.same (t := 8) (e := .blk bP 1 8 (gP p') 62) (by show _ = (fd 8 h).rf; rw [f8]; rfl))
  have x4 := x3.trans (Ext.same (t := 2) (e := .blk bA N 5 (gA s'.u s'.d s'.l s'.lo s'.he) 86) (by show _ = (fd 2 h).rf; rw [f2]; rfl))
  have x5 := x4.trans (Ext.same (t := 1) (e := .blk bS 1 8 (gS 2 s'.N s'.bot s'.E) 84) (by show _ = (fd 1 h).rf; rw [f1]; rfl))
  have x6 := x5.trans (Ext.new (nx := 52) (e := EN) (by show (fd 52 h).rf = none; rw [g2]; rfl))
  have x7 := x6.trans (Ext.new (nx := 51) (e := E1) (by show (fd 51 h).rf = none; rw [g1]; rfl))
  have x8 := x7.trans (Ext.new (nx := 50) (e := E0) (by show (fd 50 h).rf = none; rw [g0]; rfl))
  have x9 := x8.trans (Ext.same (t := 42) (e := EU) (by show _ = (fd 42 h).rf; rw [f6, hEU]))
  have xa := x9.trans (Ext.same (t := 2003) (e := .blk bH r'.m.n 1 (gb r'.m.H) 4) (by show _ = (fd 2003 h).rf; rw [f5]; rfl))
  have xb := xa.trans (Ext.same (t := 2000) (e := .blk bR 1 5 (gF r'.m.n r'.m.b t0 (r'.m.L 0).length d0 t1 (r'.m.L 1).length d1 2003) 68) (by show _ = (fd 2000 h).rf; rw [f4]; rfl))
  exact xb.trans (Ext.same (t := 3000) (e := .blk bQ 1 5 (gQ r' tU dU) 66) (by show _ = (fd 3000 h).rf; rw [f3]; rfl))

def stepB (p r : Pol) (k f l : Int) : Bool :=
  if k = 0 then p.enterC f l == r.enterC f l else if k = 1 then p.readyC f == r.readyC f else if k = 2 then p.hitC f l == r.hitC f l else if k = 3 then Pol.missC l == Pol.missC l else if k = 4 then p.m.lies f == r.m.lies f
  else if k = 5 then (p.vicI.1 == r.vicI.1) && (p.vicI.2 == r.vicI.2) else true
def Pol.actP (p : Pol) (k f l : Int) : Pol :=
  if k = 0 then p.enterP f l else if k = 1 then p.readyP f else if k = 2 then p.hitP f l else if k = 3 then p.missP l else if k = 4 then p.withM (p.m.dropI f) else if k = 5 then p.vicP else p
def act6 (k : Int) : Prop := k = 0 ∨ k = 1 ∨ k = 2 ∨ k = 3 ∨ k = 4 ∨ k = 5

def SPSt : SpT := [(21, PEnter), (29, QEnter), (22, PReady), (30, QReady), (23, PHit), (31, QHit), (20, PMiss), (32, QMiss), (26, PGone), (33, QGone), (18, PVic), (34, QVic)]
theorem spst : ∀ p ∈ SPSt, SpecOK Tryd.prog p.1 p.2 := consSP penter_ok (consSP qenter_ok (consSP pready_ok (consSP qready_ok (consSP phit_ok (consSP qhit_ok (consSP pmiss_ok (consSP qmiss_ok (consSP pgone_ok (consSP qgone_ok (consSP pvic_ok (consSP qvic_ok noSP)))))))))))

/-- One step on both: the program's policy p, the document's r. -/
def sStep : Spec := fun args h nx K => ∃ (p r : Pol) (k f l : Int) (bS bA bP bU bQ bR bH : Nat) (s : Sh) (X0 X1 e0 e1 eU : Ent) (c0 c1 cU : Nat) (eX eY : Ent), args = [.ptr 8 0 0, .ptr 3000 0 0, .agg [.int .i64 k, .int .i64 f, .int .i64 l]] ∧
  h = HPW bS bA bP bU s p ++ (HQ bQ bR bH X0 X1 eU c0 c1 cU r ++ [(100, eX), (101, eY)]) ∧ Inv s p.m p.m.n ∧ p.Fit ∧ LQ e0 e1 eU c0 c1 cU r ∧ (X0 = e0 ∨ X0 = e0.toRo) ∧ (X1 = e1 ∨ X1 = e1.toRo) ∧ Ok r.m ∧ r.Fit ∧ nx = 90 ∧
  (act6 k → ∀ (bx : Nat) (s' : Sh) (EU E0 E1 EN : Ent) (t0 t1 tU d0 d1 dU : Nat), s'.N = s.N → Inv s' (p.actP k f l).m (p.actP k f l).m.n → NewL 50 E0 40 t0 e0 (cI ((r.actP k f l).m.L 0)) d0 → NewL 51 E1 41 t1 e1 (cI ((r.actP k f l).m.L 1)) d1 → QU tU EU EN eU (r.actP k f l).us dU →
    K (.ret (.bool (stepB p r k f l))) (GQ bQ bR bH EU E0 E1 EN t0 t1 tU d0 d1 dU (r.actP k f l) ++ (GP bS bA bP bU s.N p.m.n s' (p.actP k f l) ++ ((90, .blk bx 1 3 (gOf 3 [.int .i64 k, .int .i64 f, .int .i64 l]) 33) :: h))) 91) ∧
  (¬ act6 k → ∀ bx : Nat, K (.ret (.bool true)) ((90, .blk bx 1 3 (gOf 3 [.int .i64 k, .int .i64 f, .int .i64 l]) 33) :: h) 91)

theorem step_0 {c : Cx} (hc : c.P = Tryd.prog) {p r : Pol} {f l : Int} {bS bA bP bU bQ bR bH : Nat} {s : Sh} {X0 X1 e0 e1 eU : Ent} {c0 c1 cU : Nat} {eX eY : Ent} {K : Out → Hp → Nat → Prop} (hi : Inv s p.m p.m.n) (hfp : p.Fit) (hl : LQ e0 e1 eU c0 c1 cU r) (hx0 : X0 = e0 ∨ X0 = e0.toRo) (hx1 : X1 = e1 ∨ X1 = e1.toRo) (hok : Ok r.m) (hfr : r.Fit)
    (hk : ∀ (bx : Nat) (s' : Sh) (EU E0 E1 EN : Ent) (t0 t1 tU d0 d1 dU : Nat), s'.N = s.N → Inv s' (p.enterP f l).m (p.enterP f l).m.n → NewL 50 E0 40 t0 e0 (cI ((r.enterP f l).m.L 0)) d0 → NewL 51 E1 41 t1 e1 (cI ((r.enterP f l).m.L 1)) d1 → QU tU EU EN eU (r.enterP f l).us dU →
      K (.ret (.bool (stepB p r 0 f l))) (GQ bQ bR bH EU E0 E1 EN t0 t1 tU d0 d1 dU (r.enterP f l) ++ (GP bS bA bP bU s.N p.m.n s' (p.enterP f l) ++ ((90, .blk bx 1 3 (gOf 3 [.int .i64 0, .int .i64 f, .int .i64 l]) 33) :: (HPW bS bA bP bU s p ++ (HQ bQ bR bH X0 X1 eU c0 c1 cU r ++ [(100, eX), (101, eY)]))))) 91)
    {cd : Code} (hcd : Tryd.f13.body = some cd) :
    W ⟨c, Tryd.f13, T, SPSt, fun o h' nx' => Ext (HPW bS bA bP bU s p ++ (HQ bQ bR bH X0 X1 eU c0 c1 cU r ++ [(100, eX), (101, eY)])) h' ∧ K o h' nx'⟩ [.code cd] (argsS [.ptr 8 0 0, .ptr 3000 0 0, .agg [.int .i64 0, .int .i64 f, .int .i64 l]] 0) (HPW bS bA bP bU s p ++ (HQ bQ bR bH X0 X1 eU c0 c1 cU r ++ [(100, eX), (101, eY)])) 90 := by
  cases hcd
  have hE := mkE' (fn := Tryd.f13) (R := fun o h' nx' => Ext (HPW bS bA bP bU s p ++ (HQ bQ bR bH X0 X1 eU c0 c1 cU r ++ [(100, eX), (101, eY)])) h' ∧ K o h' nx') hc spst
  refine vc_sound hE 80 _ _ _ 90 ?_
  intro bx
  refine W_planw hE 91 [5, 11] (.take 0 (.take 1 (.take 2 (.take 3 (.take 4 (.take 6 (.take 7 (.take 9 (.all (.cons 5 (.all (.cons 8 (.all (.cons 10 (.all (.cons 11 (.take 12 (.take 13 .done)) .nil)) .nil)) (.cons 10 (.all (.cons 8 (.all (.cons 11 (.take 12 (.take 13 .done)) .nil)) .nil)) .nil))) (.cons 8 (.all (.cons 5 (.all (.cons 10 (.all (.cons 11 (.take 12 (.take 13 .done)) .nil)) .nil)) (.cons 10 (.all (.cons 5 (.all (.cons 11 (.take 12 (.take 13 .done)) .nil)) .nil)) .nil))) (.cons 10 (.all (.cons 5 (.all (.cons 8 (.all (.cons 11 (.take 12 (.take 13 .done)) .nil)) .nil)) (.cons 8 (.all (.cons 5 (.all (.cons 11 (.take 12 (.take 13 .done)) .nil)) .nil)) .nil))) .nil)))))))))))) (by rw [hc]; exact mix) (by kernel_rfl) 40 ?_
  iterate 8 (refine ⟨_, ⟨rfl, rfl⟩, ?_⟩)
  refine ⟨⟨trivial, ?_⟩, ?_⟩
  · refine ⟨_, p, p.enterP f l, _, rfl, ⟨f, l, rfl, hfp.few, rfl, rfl⟩, bS, bA, bP, bU, s, hi, rfl, rfl, rfl, rfl, rfl, fun s' hN hi' => ?_⟩
    refine ⟨⟨trivial, ?_⟩, ?_⟩
    · refine ⟨⟨trivial, ?_⟩, trivial⟩
      refine ⟨⟨trivial, ?_⟩, trivial⟩
      refine ⟨_, r, r.enterP f l, _, rfl, ⟨f, l, rfl, hok, hfr.few, rfl, rfl⟩, bQ, bR, bH, e0, e1, eU, c0, c1, cU, hl, rfl, rfl, hx0, hx1, rfl, rfl, rfl, rfl, rfl, fun EU E0 E1 EN t0 t1 tU d0 d1 dU n0 n1 nU => ?_⟩
      iterate 2 (refine ⟨_, ⟨rfl, rfl⟩, ?_⟩)
      exact ⟨ext_step rfl rfl rfl rfl rfl rfl rfl rfl rfl rfl rfl rfl (enterP_nb r f l).1 nU, hk bx s' EU E0 E1 EN t0 t1 tU d0 d1 dU hN hi' n0 n1 nU⟩
    refine ⟨⟨trivial, ?_⟩, trivial⟩
    refine ⟨⟨trivial, ?_⟩, trivial⟩
    refine ⟨⟨trivial, ?_⟩, trivial⟩
    refine ⟨_, r, r.enterP f l, _, rfl, ⟨f, l, rfl, hok, hfr.few, rfl, rfl⟩, bQ, bR, bH, e0, e1, eU, c0, c1, cU, hl, rfl, rfl, hx0, hx1, rfl, rfl, rfl, rfl, rfl, fun EU E0 E1 EN t0 t1 tU d0 d1 dU n0 n1 nU => ?_⟩
    iterate 2 (refine ⟨_, ⟨rfl, rfl⟩, ?_⟩)
    exact ⟨ext_step rfl rfl rfl rfl rfl rfl rfl rfl rfl rfl rfl rfl (enterP_nb r f l).1 nU, hk bx s' EU E0 E1 EN t0 t1 tU d0 d1 dU hN hi' n0 n1 nU⟩
  refine ⟨⟨trivial, ?_⟩, ?_⟩
  · refine ⟨⟨trivial, ?_⟩, ?_⟩
    · refine ⟨_, p, p.enterP f l, _, rfl, ⟨f, l, rfl, hfp.few, rfl, rfl⟩, bS, bA, bP, bU, s, hi, rfl, rfl, rfl, rfl, rfl, fun s' hN hi' => ?_⟩
      refine ⟨⟨trivial, ?_⟩, trivial⟩
      refine ⟨⟨trivial, ?_⟩, trivial⟩
      refine ⟨_, r, r.enterP f l, _, rfl, ⟨f, l, rfl, hok, hfr.few, rfl, rfl⟩, bQ, bR, bH, e0, e1, eU, c0, c1, cU, hl, rfl, rfl, hx0, hx1, rfl, rfl, rfl, rfl, rfl, fun EU E0 E1 EN t0 t1 tU d0 d1 dU n0 n1 nU => ?_⟩
      iterate 2 (refine ⟨_, ⟨rfl, rfl⟩, ?_⟩)
      exact ⟨ext_step rfl rfl rfl rfl rfl rfl rfl rfl rfl rfl rfl rfl (enterP_nb r f l).1 nU, hk bx s' EU E0 E1 EN t0 t1 tU d0 d1 dU hN hi' n0 n1 nU⟩
    refine ⟨⟨trivial, ?_⟩, trivial⟩
    refine ⟨⟨trivial, ?_⟩, trivial⟩
    refine ⟨_, p, p.enterP f l, _, rfl, ⟨f, l, rfl, hfp.few, rfl, rfl⟩, bS, bA, bP, bU, s, hi, rfl, rfl, rfl, rfl, rfl, fun s' hN hi' => ?_⟩
    refine ⟨⟨trivial, ?_⟩, trivial⟩
    refine ⟨_, r, r.enterP f l, _, rfl, ⟨f, l, rfl, hok, hfr.few, rfl, rfl⟩, bQ, bR, bH, e0, e1, eU, c0, c1, cU, hl, rfl, rfl, hx0, hx1, rfl, rfl, rfl, rfl, rfl, fun EU E0 E1 EN t0 t1 tU d0 d1 dU n0 n1 nU => ?_⟩
    iterate 2 (refine ⟨_, ⟨rfl, rfl⟩, ?_⟩)
    exact ⟨ext_step rfl rfl rfl rfl rfl rfl rfl rfl rfl rfl rfl rfl (enterP_nb r f l).1 nU, hk bx s' EU E0 E1 EN t0 t1 tU d0 d1 dU hN hi' n0 n1 nU⟩
  refine ⟨⟨trivial, ?_⟩, trivial⟩
  refine ⟨⟨trivial, ?_⟩, ?_⟩
  · refine ⟨_, p, p.enterP f l, _, rfl, ⟨f, l, rfl, hfp.few, rfl, rfl⟩, bS, bA, bP, bU, s, hi, rfl, rfl, rfl, rfl, rfl, fun s' hN hi' => ?_⟩
    refine ⟨⟨trivial, ?_⟩, trivial⟩
    refine ⟨⟨trivial, ?_⟩, trivial⟩
    refine ⟨_, r, r.enterP f l, _, rfl, ⟨f, l, rfl, hok, hfr.few, rfl, rfl⟩, bQ, bR, bH, e0, e1, eU, c0, c1, cU, hl, rfl, rfl, hx0, hx1, rfl, rfl, rfl, rfl, rfl, fun EU E0 E1 EN t0 t1 tU d0 d1 dU n0 n1 nU => ?_⟩
    iterate 2 (refine ⟨_, ⟨rfl, rfl⟩, ?_⟩)
    exact ⟨ext_step rfl rfl rfl rfl rfl rfl rfl rfl rfl rfl rfl rfl (enterP_nb r f l).1 nU, hk bx s' EU E0 E1 EN t0 t1 tU d0 d1 dU hN hi' n0 n1 nU⟩
  refine ⟨⟨trivial, ?_⟩, trivial⟩
  refine ⟨⟨trivial, ?_⟩, trivial⟩
  refine ⟨_, p, p.enterP f l, _, rfl, ⟨f, l, rfl, hfp.few, rfl, rfl⟩, bS, bA, bP, bU, s, hi, rfl, rfl, rfl, rfl, rfl, fun s' hN hi' => ?_⟩
  refine ⟨⟨trivial, ?_⟩, trivial⟩
  refine ⟨_, r, r.enterP f l, _, rfl, ⟨f, l, rfl, hok, hfr.few, rfl, rfl⟩, bQ, bR, bH, e0, e1, eU, c0, c1, cU, hl, rfl, rfl, hx0, hx1, rfl, rfl, rfl, rfl, rfl, fun EU E0 E1 EN t0 t1 tU d0 d1 dU n0 n1 nU => ?_⟩
  iterate 2 (refine ⟨_, ⟨rfl, rfl⟩, ?_⟩)
  exact ⟨ext_step rfl rfl rfl rfl rfl rfl rfl rfl rfl rfl rfl rfl (enterP_nb r f l).1 nU, hk bx s' EU E0 E1 EN t0 t1 tU d0 d1 dU hN hi' n0 n1 nU⟩
theorem step_1 {c : Cx} (hc : c.P = Tryd.prog) {p r : Pol} {f l : Int} {bS bA bP bU bQ bR bH : Nat} {s : Sh} {X0 X1 e0 e1 eU : Ent} {c0 c1 cU : Nat} {eX eY : Ent} {K : Out → Hp → Nat → Prop} (hi : Inv s p.m p.m.n) (hfp : p.Fit) (hl : LQ e0 e1 eU c0 c1 cU r) (hx0 : X0 = e0 ∨ X0 = e0.toRo) (hx1 : X1 = e1 ∨ X1 = e1.toRo) (hok : Ok r.m) (hfr : r.Fit)
    (hk : ∀ (bx : Nat) (s' : Sh) (EU E0 E1 EN : Ent) (t0 t1 tU d0 d1 dU : Nat), s'.N = s.N → Inv s' (p.readyP f).m (p.readyP f).m.n → NewL 50 E0 40 t0 e0 (cI ((r.readyP f).m.L 0)) d0 → NewL 51 E1 41 t1 e1 (cI ((r.readyP f).m.L 1)) d1 → QU tU EU EN eU (r.readyP f).us dU →
      K (.ret (.bool (stepB p r 1 f l))) (GQ bQ bR bH EU E0 E1 EN t0 t1 tU d0 d1 dU (r.readyP f) ++ (GP bS bA bP bU s.N p.m.n s' (p.readyP f) ++ ((90, .blk bx 1 3 (gOf 3 [.int .i64 1, .int .i64 f, .int .i64 l]) 33) :: (HPW bS bA bP bU s p ++ (HQ bQ bR bH X0 X1 eU c0 c1 cU r ++ [(100, eX), (101, eY)]))))) 91)
    {cd : Code} (hcd : Tryd.f13.body = some cd) :
    W ⟨c, Tryd.f13, T, SPSt, fun o h' nx' => Ext (HPW bS bA bP bU s p ++ (HQ bQ bR bH X0 X1 eU c0 c1 cU r ++ [(100, eX), (101, eY)])) h' ∧ K o h' nx'⟩ [.code cd] (argsS [.ptr 8 0 0, .ptr 3000 0 0, .agg [.int .i64 1, .int .i64 f, .int .i64 l]] 0) (HPW bS bA bP bU s p ++ (HQ bQ bR bH X0 X1 eU c0 c1 cU r ++ [(100, eX), (101, eY)])) 90 := by
  cases hcd
  have hE := mkE' (fn := Tryd.f13) (R := fun o h' nx' => Ext (HPW bS bA bP bU s p ++ (HQ bQ bR bH X0 X1 eU c0 c1 cU r ++ [(100, eX), (101, eY)])) h' ∧ K o h' nx') hc spst
  refine vc_sound hE 80 _ _ _ 90 ?_
  intro bx
  refine W_planw hE 91 [3, 7] (.take 0 (.take 1 (.take 2 (.take 4 (.take 5 (.all (.cons 3 (.all (.cons 6 (.all (.cons 7 (.take 8 (.take 9 .done)) .nil)) .nil)) (.cons 6 (.all (.cons 3 (.all (.cons 7 (.take 8 (.take 9 .done)) .nil)) .nil)) .nil)))))))) (by rw [hc]; exact mix) (by kernel_rfl) 40 ?_
  iterate 5 (refine ⟨_, ⟨rfl, rfl⟩, ?_⟩)
  refine ⟨⟨trivial, ?_⟩, ?_⟩
  · refine ⟨_, p, p.readyP f, _, rfl, ⟨f, rfl, rfl, rfl⟩, bS, bA, bP, bU, s, hi, rfl, rfl, rfl, rfl, rfl, fun s' hN hi' => ?_⟩
    refine ⟨⟨trivial, ?_⟩, trivial⟩
    refine ⟨⟨trivial, ?_⟩, trivial⟩
    refine ⟨_, r, r.readyP f, _, rfl, ⟨f, rfl, hok, rfl, rfl⟩, bQ, bR, bH, e0, e1, eU, c0, c1, cU, hl, rfl, rfl, hx0, hx1, rfl, rfl, rfl, rfl, rfl, fun EU E0 E1 EN t0 t1 tU d0 d1 dU n0 n1 nU => ?_⟩
    iterate 2 (refine ⟨_, ⟨rfl, rfl⟩, ?_⟩)
    exact ⟨ext_step rfl rfl rfl rfl rfl rfl rfl rfl rfl rfl rfl rfl (readyP_nb r f).1 nU, hk bx s' EU E0 E1 EN t0 t1 tU d0 d1 dU hN hi' n0 n1 nU⟩
  refine ⟨⟨trivial, ?_⟩, trivial⟩
  refine ⟨⟨trivial, ?_⟩, trivial⟩
  refine ⟨_, p, p.readyP f, _, rfl, ⟨f, rfl, rfl, rfl⟩, bS, bA, bP, bU, s, hi, rfl, rfl, rfl, rfl, rfl, fun s' hN hi' => ?_⟩
  refine ⟨⟨trivial, ?_⟩, trivial⟩
  refine ⟨_, r, r.readyP f, _, rfl, ⟨f, rfl, hok, rfl, rfl⟩, bQ, bR, bH, e0, e1, eU, c0, c1, cU, hl, rfl, rfl, hx0, hx1, rfl, rfl, rfl, rfl, rfl, fun EU E0 E1 EN t0 t1 tU d0 d1 dU n0 n1 nU => ?_⟩
  iterate 2 (refine ⟨_, ⟨rfl, rfl⟩, ?_⟩)
  exact ⟨ext_step rfl rfl rfl rfl rfl rfl rfl rfl rfl rfl rfl rfl (readyP_nb r f).1 nU, hk bx s' EU E0 E1 EN t0 t1 tU d0 d1 dU hN hi' n0 n1 nU⟩
theorem step_2 {c : Cx} (hc : c.P = Tryd.prog) {p r : Pol} {f l : Int} {bS bA bP bU bQ bR bH : Nat} {s : Sh} {X0 X1 e0 e1 eU : Ent} {c0 c1 cU : Nat} {eX eY : Ent} {K : Out → Hp → Nat → Prop} (hi : Inv s p.m p.m.n) (hfp : p.Fit) (hl : LQ e0 e1 eU c0 c1 cU r) (hx0 : X0 = e0 ∨ X0 = e0.toRo) (hx1 : X1 = e1 ∨ X1 = e1.toRo) (hok : Ok r.m) (hfr : r.Fit)
    (hk : ∀ (bx : Nat) (s' : Sh) (EU E0 E1 EN : Ent) (t0 t1 tU d0 d1 dU : Nat), s'.N = s.N → Inv s' (p.hitP f l).m (p.hitP f l).m.n → NewL 50 E0 40 t0 e0 (cI ((r.hitP f l).m.L 0)) d0 → NewL 51 E1 41 t1 e1 (cI ((r.hitP f l).m.L 1)) d1 → QU tU EU EN eU (r.hitP f l).us dU →
      K (.ret (.bool (stepB p r 2 f l))) (GQ bQ bR bH EU E0 E1 EN t0 t1 tU d0 d1 dU (r.hitP f l) ++ (GP bS bA bP bU s.N p.m.n s' (p.hitP f l) ++ ((90, .blk bx 1 3 (gOf 3 [.int .i64 2, .int .i64 f, .int .i64 l]) 33) :: (HPW bS bA bP bU s p ++ (HQ bQ bR bH X0 X1 eU c0 c1 cU r ++ [(100, eX), (101, eY)]))))) 91)
    {cd : Code} (hcd : Tryd.f13.body = some cd) :
    W ⟨c, Tryd.f13, T, SPSt, fun o h' nx' => Ext (HPW bS bA bP bU s p ++ (HQ bQ bR bH X0 X1 eU c0 c1 cU r ++ [(100, eX), (101, eY)])) h' ∧ K o h' nx'⟩ [.code cd] (argsS [.ptr 8 0 0, .ptr 3000 0 0, .agg [.int .i64 2, .int .i64 f, .int .i64 l]] 0) (HPW bS bA bP bU s p ++ (HQ bQ bR bH X0 X1 eU c0 c1 cU r ++ [(100, eX), (101, eY)])) 90 := by
  cases hcd
  have hE := mkE' (fn := Tryd.f13) (R := fun o h' nx' => Ext (HPW bS bA bP bU s p ++ (HQ bQ bR bH X0 X1 eU c0 c1 cU r ++ [(100, eX), (101, eY)])) h' ∧ K o h' nx') hc spst
  refine vc_sound hE 80 _ _ _ 90 ?_
  intro bx
  refine W_planw hE 91 [5, 11] (.take 0 (.take 1 (.take 2 (.take 3 (.take 4 (.take 6 (.take 7 (.take 9 (.all (.cons 5 (.all (.cons 8 (.all (.cons 10 (.all (.cons 11 (.take 12 (.take 13 .done)) .nil)) .nil)) (.cons 10 (.all (.cons 8 (.all (.cons 11 (.take 12 (.take 13 .done)) .nil)) .nil)) .nil))) (.cons 8 (.all (.cons 5 (.all (.cons 10 (.all (.cons 11 (.take 12 (.take 13 .done)) .nil)) .nil)) (.cons 10 (.all (.cons 5 (.all (.cons 11 (.take 12 (.take 13 .done)) .nil)) .nil)) .nil))) (.cons 10 (.all (.cons 5 (.all (.cons 8 (.all (.cons 11 (.take 12 (.take 13 .done)) .nil)) .nil)) (.cons 8 (.all (.cons 5 (.all (.cons 11 (.take 12 (.take 13 .done)) .nil)) .nil)) .nil))) .nil)))))))))))) (by rw [hc]; exact mix) (by kernel_rfl) 40 ?_
  iterate 8 (refine ⟨_, ⟨rfl, rfl⟩, ?_⟩)
  refine ⟨⟨trivial, ?_⟩, ?_⟩
  · refine ⟨_, p, p.hitP f l, _, rfl, ⟨f, l, rfl, hfp, rfl, rfl⟩, bS, bA, bP, bU, s, hi, rfl, rfl, rfl, rfl, rfl, fun s' hN hi' => ?_⟩
    refine ⟨⟨trivial, ?_⟩, ?_⟩
    · refine ⟨⟨trivial, ?_⟩, trivial⟩
      refine ⟨⟨trivial, ?_⟩, trivial⟩
      refine ⟨_, r, r.hitP f l, _, rfl, ⟨f, l, rfl, hok, hfr, rfl, rfl⟩, bQ, bR, bH, e0, e1, eU, c0, c1, cU, hl, rfl, rfl, hx0, hx1, rfl, rfl, rfl, rfl, rfl, fun EU E0 E1 EN t0 t1 tU d0 d1 dU n0 n1 nU => ?_⟩
      iterate 2 (refine ⟨_, ⟨rfl, rfl⟩, ?_⟩)
      exact ⟨ext_step rfl rfl rfl rfl rfl rfl rfl rfl rfl rfl rfl rfl (hitP_nb r f l).1 nU, hk bx s' EU E0 E1 EN t0 t1 tU d0 d1 dU hN hi' n0 n1 nU⟩
    refine ⟨⟨trivial, ?_⟩, trivial⟩
    refine ⟨⟨trivial, ?_⟩, trivial⟩
    refine ⟨⟨trivial, ?_⟩, trivial⟩
    refine ⟨_, r, r.hitP f l, _, rfl, ⟨f, l, rfl, hok, hfr, rfl, rfl⟩, bQ, bR, bH, e0, e1, eU, c0, c1, cU, hl, rfl, rfl, hx0, hx1, rfl, rfl, rfl, rfl, rfl, fun EU E0 E1 EN t0 t1 tU d0 d1 dU n0 n1 nU => ?_⟩
    iterate 2 (refine ⟨_, ⟨rfl, rfl⟩, ?_⟩)
    exact ⟨ext_step rfl rfl rfl rfl rfl rfl rfl rfl rfl rfl rfl rfl (hitP_nb r f l).1 nU, hk bx s' EU E0 E1 EN t0 t1 tU d0 d1 dU hN hi' n0 n1 nU⟩
  refine ⟨⟨trivial, ?_⟩, ?_⟩
  · refine ⟨⟨trivial, ?_⟩, ?_⟩
    · refine ⟨_, p, p.hitP f l, _, rfl, ⟨f, l, rfl, hfp, rfl, rfl⟩, bS, bA, bP, bU, s, hi, rfl, rfl, rfl, rfl, rfl, fun s' hN hi' => ?_⟩
      refine ⟨⟨trivial, ?_⟩, trivial⟩
      refine ⟨⟨trivial, ?_⟩, trivial⟩
      refine ⟨_, r, r.hitP f l, _, rfl, ⟨f, l, rfl, hok, hfr, rfl, rfl⟩, bQ, bR, bH, e0, e1, eU, c0, c1, cU, hl, rfl, rfl, hx0, hx1, rfl, rfl, rfl, rfl, rfl, fun EU E0 E1 EN t0 t1 tU d0 d1 dU n0 n1 nU => ?_⟩
      iterate 2 (refine ⟨_, ⟨rfl, rfl⟩, ?_⟩)
      exact ⟨ext_step rfl rfl rfl rfl rfl rfl rfl rfl rfl rfl rfl rfl (hitP_nb r f l).1 nU, hk bx s' EU E0 E1 EN t0 t1 tU d0 d1 dU hN hi' n0 n1 nU⟩
    refine ⟨⟨trivial, ?_⟩, trivial⟩
    refine ⟨⟨trivial, ?_⟩, trivial⟩
    refine ⟨_, p, p.hitP f l, _, rfl, ⟨f, l, rfl, hfp, rfl, rfl⟩, bS, bA, bP, bU, s, hi, rfl, rfl, rfl, rfl, rfl, fun s' hN hi' => ?_⟩
    refine ⟨⟨trivial, ?_⟩, trivial⟩
    refine ⟨_, r, r.hitP f l, _, rfl, ⟨f, l, rfl, hok, hfr, rfl, rfl⟩, bQ, bR, bH, e0, e1, eU, c0, c1, cU, hl, rfl, rfl, hx0, hx1, rfl, rfl, rfl, rfl, rfl, fun EU E0 E1 EN t0 t1 tU d0 d1 dU n0 n1 nU => ?_⟩
    iterate 2 (refine ⟨_, ⟨rfl, rfl⟩, ?_⟩)
    exact ⟨ext_step rfl rfl rfl rfl rfl rfl rfl rfl rfl rfl rfl rfl (hitP_nb r f l).1 nU, hk bx s' EU E0 E1 EN t0 t1 tU d0 d1 dU hN hi' n0 n1 nU⟩
  refine ⟨⟨trivial, ?_⟩, trivial⟩
  refine ⟨⟨trivial, ?_⟩, ?_⟩
  · refine ⟨_, p, p.hitP f l, _, rfl, ⟨f, l, rfl, hfp, rfl, rfl⟩, bS, bA, bP, bU, s, hi, rfl, rfl, rfl, rfl, rfl, fun s' hN hi' => ?_⟩
    refine ⟨⟨trivial, ?_⟩, trivial⟩
    refine ⟨⟨trivial, ?_⟩, trivial⟩
    refine ⟨_, r, r.hitP f l, _, rfl, ⟨f, l, rfl, hok, hfr, rfl, rfl⟩, bQ, bR, bH, e0, e1, eU, c0, c1, cU, hl, rfl, rfl, hx0, hx1, rfl, rfl, rfl, rfl, rfl, fun EU E0 E1 EN t0 t1 tU d0 d1 dU n0 n1 nU => ?_⟩
    iterate 2 (refine ⟨_, ⟨rfl, rfl⟩, ?_⟩)
    exact ⟨ext_step rfl rfl rfl rfl rfl rfl rfl rfl rfl rfl rfl rfl (hitP_nb r f l).1 nU, hk bx s' EU E0 E1 EN t0 t1 tU d0 d1 dU hN hi' n0 n1 nU⟩
  refine ⟨⟨trivial, ?_⟩, trivial⟩
  refine ⟨⟨trivial, ?_⟩, trivial⟩
  refine ⟨_, p, p.hitP f l, _, rfl, ⟨f, l, rfl, hfp, rfl, rfl⟩, bS, bA, bP, bU, s, hi, rfl, rfl, rfl, rfl, rfl, fun s' hN hi' => ?_⟩
  refine ⟨⟨trivial, ?_⟩, trivial⟩
  refine ⟨_, r, r.hitP f l, _, rfl, ⟨f, l, rfl, hok, hfr, rfl, rfl⟩, bQ, bR, bH, e0, e1, eU, c0, c1, cU, hl, rfl, rfl, hx0, hx1, rfl, rfl, rfl, rfl, rfl, fun EU E0 E1 EN t0 t1 tU d0 d1 dU n0 n1 nU => ?_⟩
  iterate 2 (refine ⟨_, ⟨rfl, rfl⟩, ?_⟩)
  exact ⟨ext_step rfl rfl rfl rfl rfl rfl rfl rfl rfl rfl rfl rfl (hitP_nb r f l).1 nU, hk bx s' EU E0 E1 EN t0 t1 tU d0 d1 dU hN hi' n0 n1 nU⟩
theorem step_3 {c : Cx} (hc : c.P = Tryd.prog) {p r : Pol} {f l : Int} {bS bA bP bU bQ bR bH : Nat} {s : Sh} {X0 X1 e0 e1 eU : Ent} {c0 c1 cU : Nat} {eX eY : Ent} {K : Out → Hp → Nat → Prop} (hi : Inv s p.m p.m.n) (hfp : p.Fit) (hl : LQ e0 e1 eU c0 c1 cU r) (hx0 : X0 = e0 ∨ X0 = e0.toRo) (hx1 : X1 = e1 ∨ X1 = e1.toRo) (hok : Ok r.m) (hfr : r.Fit)
    (hk : ∀ (bx : Nat) (s' : Sh) (EU E0 E1 EN : Ent) (t0 t1 tU d0 d1 dU : Nat), s'.N = s.N → Inv s' (p.missP l).m (p.missP l).m.n → NewL 50 E0 40 t0 e0 (cI ((r.missP l).m.L 0)) d0 → NewL 51 E1 41 t1 e1 (cI ((r.missP l).m.L 1)) d1 → QU tU EU EN eU (r.missP l).us dU →
      K (.ret (.bool (stepB p r 3 f l))) (GQ bQ bR bH EU E0 E1 EN t0 t1 tU d0 d1 dU (r.missP l) ++ (GP bS bA bP bU s.N p.m.n s' (p.missP l) ++ ((90, .blk bx 1 3 (gOf 3 [.int .i64 3, .int .i64 f, .int .i64 l]) 33) :: (HPW bS bA bP bU s p ++ (HQ bQ bR bH X0 X1 eU c0 c1 cU r ++ [(100, eX), (101, eY)]))))) 91)
    {cd : Code} (hcd : Tryd.f13.body = some cd) :
    W ⟨c, Tryd.f13, T, SPSt, fun o h' nx' => Ext (HPW bS bA bP bU s p ++ (HQ bQ bR bH X0 X1 eU c0 c1 cU r ++ [(100, eX), (101, eY)])) h' ∧ K o h' nx'⟩ [.code cd] (argsS [.ptr 8 0 0, .ptr 3000 0 0, .agg [.int .i64 3, .int .i64 f, .int .i64 l]] 0) (HPW bS bA bP bU s p ++ (HQ bQ bR bH X0 X1 eU c0 c1 cU r ++ [(100, eX), (101, eY)])) 90 := by
  cases hcd
  have hE := mkE' (fn := Tryd.f13) (R := fun o h' nx' => Ext (HPW bS bA bP bU s p ++ (HQ bQ bR bH X0 X1 eU c0 c1 cU r ++ [(100, eX), (101, eY)])) h' ∧ K o h' nx') hc spst
  refine vc_sound hE 80 _ _ _ 90 ?_
  intro bx
  refine W_planw hE 91 [3, 7] (.take 0 (.take 1 (.take 2 (.take 4 (.take 5 (.all (.cons 3 (.all (.cons 6 (.all (.cons 7 (.take 8 (.take 9 .done)) .nil)) .nil)) (.cons 6 (.all (.cons 3 (.all (.cons 7 (.take 8 (.take 9 .done)) .nil)) .nil)) .nil)))))))) (by rw [hc]; exact mix) (by kernel_rfl) 40 ?_
  iterate 5 (refine ⟨_, ⟨rfl, rfl⟩, ?_⟩)
  refine ⟨⟨trivial, ?_⟩, ?_⟩
  · refine ⟨_, p, p.missP l, _, rfl, ⟨l, rfl, hfp, rfl, rfl⟩, bS, bA, bP, bU, s, hi, rfl, rfl, rfl, rfl, rfl, fun s' hN hi' => ?_⟩
    refine ⟨⟨trivial, ?_⟩, trivial⟩
    refine ⟨⟨trivial, ?_⟩, trivial⟩
    refine ⟨_, r, r.missP l, _, rfl, ⟨l, rfl, hok, hfr, rfl, rfl⟩, bQ, bR, bH, e0, e1, eU, c0, c1, cU, hl, rfl, rfl, hx0, hx1, rfl, rfl, rfl, rfl, rfl, fun EU E0 E1 EN t0 t1 tU d0 d1 dU n0 n1 nU => ?_⟩
    iterate 2 (refine ⟨_, ⟨rfl, rfl⟩, ?_⟩)
    exact ⟨ext_step rfl rfl rfl rfl rfl rfl rfl rfl rfl rfl rfl rfl (by rw [(missP_m r l).1]) nU, hk bx s' EU E0 E1 EN t0 t1 tU d0 d1 dU hN hi' n0 n1 nU⟩
  refine ⟨⟨trivial, ?_⟩, trivial⟩
  refine ⟨⟨trivial, ?_⟩, trivial⟩
  refine ⟨_, p, p.missP l, _, rfl, ⟨l, rfl, hfp, rfl, rfl⟩, bS, bA, bP, bU, s, hi, rfl, rfl, rfl, rfl, rfl, fun s' hN hi' => ?_⟩
  refine ⟨⟨trivial, ?_⟩, trivial⟩
  refine ⟨_, r, r.missP l, _, rfl, ⟨l, rfl, hok, hfr, rfl, rfl⟩, bQ, bR, bH, e0, e1, eU, c0, c1, cU, hl, rfl, rfl, hx0, hx1, rfl, rfl, rfl, rfl, rfl, fun EU E0 E1 EN t0 t1 tU d0 d1 dU n0 n1 nU => ?_⟩
  iterate 2 (refine ⟨_, ⟨rfl, rfl⟩, ?_⟩)
  exact ⟨ext_step rfl rfl rfl rfl rfl rfl rfl rfl rfl rfl rfl rfl (by rw [(missP_m r l).1]) nU, hk bx s' EU E0 E1 EN t0 t1 tU d0 d1 dU hN hi' n0 n1 nU⟩
theorem step_4 {c : Cx} (hc : c.P = Tryd.prog) {p r : Pol} {f l : Int} {bS bA bP bU bQ bR bH : Nat} {s : Sh} {X0 X1 e0 e1 eU : Ent} {c0 c1 cU : Nat} {eX eY : Ent} {K : Out → Hp → Nat → Prop} (hi : Inv s p.m p.m.n) (hfp : p.Fit) (hl : LQ e0 e1 eU c0 c1 cU r) (hx0 : X0 = e0 ∨ X0 = e0.toRo) (hx1 : X1 = e1 ∨ X1 = e1.toRo) (hok : Ok r.m) (hfr : r.Fit)
    (hk : ∀ (bx : Nat) (s' : Sh) (EU E0 E1 EN : Ent) (t0 t1 tU d0 d1 dU : Nat), s'.N = s.N → Inv s' (p.withM (p.m.dropI f)).m (p.withM (p.m.dropI f)).m.n → NewL 50 E0 40 t0 e0 (cI ((r.withM (r.m.dropI f)).m.L 0)) d0 → NewL 51 E1 41 t1 e1 (cI ((r.withM (r.m.dropI f)).m.L 1)) d1 → QU tU EU EN eU (r.withM (r.m.dropI f)).us dU →
      K (.ret (.bool (stepB p r 4 f l))) (GQ bQ bR bH EU E0 E1 EN t0 t1 tU d0 d1 dU (r.withM (r.m.dropI f)) ++ (GP bS bA bP bU s.N p.m.n s' (p.withM (p.m.dropI f)) ++ ((90, .blk bx 1 3 (gOf 3 [.int .i64 4, .int .i64 f, .int .i64 l]) 33) :: (HPW bS bA bP bU s p ++ (HQ bQ bR bH X0 X1 eU c0 c1 cU r ++ [(100, eX), (101, eY)]))))) 91)
    {cd : Code} (hcd : Tryd.f13.body = some cd) :
    W ⟨c, Tryd.f13, T, SPSt, fun o h' nx' => Ext (HPW bS bA bP bU s p ++ (HQ bQ bR bH X0 X1 eU c0 c1 cU r ++ [(100, eX), (101, eY)])) h' ∧ K o h' nx'⟩ [.code cd] (argsS [.ptr 8 0 0, .ptr 3000 0 0, .agg [.int .i64 4, .int .i64 f, .int .i64 l]] 0) (HPW bS bA bP bU s p ++ (HQ bQ bR bH X0 X1 eU c0 c1 cU r ++ [(100, eX), (101, eY)])) 90 := by
  cases hcd
  have hE := mkE' (fn := Tryd.f13) (R := fun o h' nx' => Ext (HPW bS bA bP bU s p ++ (HQ bQ bR bH X0 X1 eU c0 c1 cU r ++ [(100, eX), (101, eY)])) h' ∧ K o h' nx') hc spst
  refine vc_sound hE 80 _ _ _ 90 ?_
  intro bx
  refine W_planw hE 91 [3, 7] (.take 0 (.take 1 (.take 2 (.take 4 (.take 5 (.all (.cons 3 (.all (.cons 6 (.all (.cons 7 (.take 8 (.take 9 .done)) .nil)) .nil)) (.cons 6 (.all (.cons 3 (.all (.cons 7 (.take 8 (.take 9 .done)) .nil)) .nil)) .nil)))))))) (by rw [hc]; exact mix) (by kernel_rfl) 40 ?_
  iterate 5 (refine ⟨_, ⟨rfl, rfl⟩, ?_⟩)
  refine ⟨⟨trivial, ?_⟩, ?_⟩
  · refine ⟨_, p, p.withM (p.m.dropI f), _, rfl, ⟨f, rfl, rfl, rfl⟩, bS, bA, bP, bU, s, hi, rfl, rfl, rfl, rfl, rfl, fun s' hN hi' => ?_⟩
    refine ⟨⟨trivial, ?_⟩, trivial⟩
    refine ⟨⟨trivial, ?_⟩, trivial⟩
    refine ⟨_, r, r.withM (r.m.dropI f), _, rfl, ⟨f, rfl, hok, rfl, rfl⟩, bQ, bR, bH, e0, e1, eU, c0, c1, cU, hl, rfl, rfl, hx0, hx1, rfl, rfl, rfl, rfl, rfl, fun EU E0 E1 EN t0 t1 tU d0 d1 dU n0 n1 nU => ?_⟩
    iterate 2 (refine ⟨_, ⟨rfl, rfl⟩, ?_⟩)
    exact ⟨ext_step rfl rfl rfl rfl rfl rfl rfl rfl rfl rfl rfl rfl drop_nb.1 nU, hk bx s' EU E0 E1 EN t0 t1 tU d0 d1 dU hN hi' n0 n1 nU⟩
  refine ⟨⟨trivial, ?_⟩, trivial⟩
  refine ⟨⟨trivial, ?_⟩, trivial⟩
  refine ⟨_, p, p.withM (p.m.dropI f), _, rfl, ⟨f, rfl, rfl, rfl⟩, bS, bA, bP, bU, s, hi, rfl, rfl, rfl, rfl, rfl, fun s' hN hi' => ?_⟩
  refine ⟨⟨trivial, ?_⟩, trivial⟩
  refine ⟨_, r, r.withM (r.m.dropI f), _, rfl, ⟨f, rfl, hok, rfl, rfl⟩, bQ, bR, bH, e0, e1, eU, c0, c1, cU, hl, rfl, rfl, hx0, hx1, rfl, rfl, rfl, rfl, rfl, fun EU E0 E1 EN t0 t1 tU d0 d1 dU n0 n1 nU => ?_⟩
  iterate 2 (refine ⟨_, ⟨rfl, rfl⟩, ?_⟩)
  exact ⟨ext_step rfl rfl rfl rfl rfl rfl rfl rfl rfl rfl rfl rfl drop_nb.1 nU, hk bx s' EU E0 E1 EN t0 t1 tU d0 d1 dU hN hi' n0 n1 nU⟩
theorem step_5 {c : Cx} (hc : c.P = Tryd.prog) {p r : Pol} {f l : Int} {bS bA bP bU bQ bR bH : Nat} {s : Sh} {X0 X1 e0 e1 eU : Ent} {c0 c1 cU : Nat} {eX eY : Ent} {K : Out → Hp → Nat → Prop} (hi : Inv s p.m p.m.n) (hfp : p.Fit) (hl : LQ e0 e1 eU c0 c1 cU r) (hx0 : X0 = e0 ∨ X0 = e0.toRo) (hx1 : X1 = e1 ∨ X1 = e1.toRo) (hok : Ok r.m) (hfr : r.Fit)
    (hk : ∀ (bx : Nat) (s' : Sh) (EU E0 E1 EN : Ent) (t0 t1 tU d0 d1 dU : Nat), s'.N = s.N → Inv s' (p.vicP).m (p.vicP).m.n → NewL 50 E0 40 t0 e0 (cI ((r.vicP).m.L 0)) d0 → NewL 51 E1 41 t1 e1 (cI ((r.vicP).m.L 1)) d1 → QU tU EU EN eU (r.vicP).us dU →
      K (.ret (.bool (stepB p r 5 f l))) (GQ bQ bR bH EU E0 E1 EN t0 t1 tU d0 d1 dU (r.vicP) ++ (GP bS bA bP bU s.N p.m.n s' (p.vicP) ++ ((90, .blk bx 1 3 (gOf 3 [.int .i64 5, .int .i64 f, .int .i64 l]) 33) :: (HPW bS bA bP bU s p ++ (HQ bQ bR bH X0 X1 eU c0 c1 cU r ++ [(100, eX), (101, eY)]))))) 91)
    {cd : Code} (hcd : Tryd.f13.body = some cd) :
    W ⟨c, Tryd.f13, T, SPSt, fun o h' nx' => Ext (HPW bS bA bP bU s p ++ (HQ bQ bR bH X0 X1 eU c0 c1 cU r ++ [(100, eX), (101, eY)])) h' ∧ K o h' nx'⟩ [.code cd] (argsS [.ptr 8 0 0, .ptr 3000 0 0, .agg [.int .i64 5, .int .i64 f, .int .i64 l]] 0) (HPW bS bA bP bU s p ++ (HQ bQ bR bH X0 X1 eU c0 c1 cU r ++ [(100, eX), (101, eY)])) 90 := by
  cases hcd
  have hE := mkE' (fn := Tryd.f13) (R := fun o h' nx' => Ext (HPW bS bA bP bU s p ++ (HQ bQ bR bH X0 X1 eU c0 c1 cU r ++ [(100, eX), (101, eY)])) h' ∧ K o h' nx') hc spst
  refine vc_sound hE 120 _ _ _ 90 ?_
  intro bx
  refine ⟨_, p, p.vicP, _, rfl, ⟨rfl, rfl, rfl⟩, bS, bA, bP, bU, s, hi, rfl, rfl, rfl, rfl, rfl, fun s' hN hi' => ?_⟩
  have hfew := hfr.few
  refine ⟨_, r, r.vicP, _, rfl, ⟨rfl, hok, by omega, rfl, rfl⟩, bQ, bR, bH, e0, e1, eU, c0, c1, cU, hl, rfl, rfl, hx0, hx1, rfl, rfl, rfl, rfl, rfl, fun EU E0 E1 EN t0 t1 tU d0 d1 dU n0 n1 nU => ?_⟩
  have hk := hk bx s' EU E0 E1 EN t0 t1 tU d0 d1 dU hN hi' n0 n1 nU
  have hx := ext_step (h := HPW bS bA bP bU s p ++ (HQ bQ bR bH X0 X1 eU c0 c1 cU r ++ [(100, eX), (101, eY)])) (e := .blk bx 1 3 (gOf 3 [.int .i64 5, .int .i64 f, .int .i64 l]) 33) (bS := bS) (bA := bA) (N := s.N) (s' := s') (p' := p.vicP) (E0 := E0) (E1 := E1) (t0 := t0) (t1 := t1) (d0 := d0) (d1 := d1) rfl rfl rfl rfl rfl rfl rfl rfl rfl rfl rfl rfl (vicP_nb r).1 nU
  (refine (?_ : br _ _ _); refine br_eq (fun q => ?_) (fun q => ?_))
  · have q : p.vicI.1 = r.vicI.1 := q
    have e : stepB p r 5 f l = (p.vicI.2 == r.vicI.2) := by
      show ((p.vicI.1 == r.vicI.1) && (p.vicI.2 == r.vicI.2)) = _
      rw [q]; simp
    rw [e] at hk
    exact ⟨hx, hk⟩
  · have q : p.vicI.1 ≠ r.vicI.1 := q
    have e : stepB p r 5 f l = false := by
      show ((p.vicI.1 == r.vicI.1) && (p.vicI.2 == r.vicI.2)) = _
      simp [q]
    rw [e] at hk
    exact ⟨hx, hk⟩

theorem sStep_ok : SpecOK Tryd.prog 13 sStep := specOK_imp (inl_ok (fn := Tryd.f13) rfl rfl rfl T_ok spst 0) <| by
  rintro args h nx K ⟨p, r, k, f, l, bS, bA, bP, bU, bQ, bR, bH, s, X0, X1, e0, e1, eU, c0, c1, cU, eX, eY, rfl, rfl, hi, hfp, hl, hx0, hx1, hok, hfr, rfl, hk, hk0⟩
  refine ⟨rfl, fun c hc => ?_⟩
  by_cases h0 : k = 0
  · subst h0; exact step_0 hc hi hfp hl hx0 hx1 hok hfr (hk (.inl rfl)) rfl
  by_cases h1 : k = 1
  · subst h1; exact step_1 hc hi hfp hl hx0 hx1 hok hfr (hk (.inr (.inl rfl))) rfl
  by_cases h2 : k = 2
  · subst h2; exact step_2 hc hi hfp hl hx0 hx1 hok hfr (hk (.inr (.inr (.inl rfl)))) rfl
  by_cases h3 : k = 3
  · subst h3; exact step_3 hc hi hfp hl hx0 hx1 hok hfr (hk (.inr (.inr (.inr (.inl rfl))))) rfl
  by_cases h4 : k = 4
  · subst h4; exact step_4 hc hi hfp hl hx0 hx1 hok hfr (hk (.inr (.inr (.inr (.inr (.inl rfl)))))) rfl
  by_cases h5 : k = 5
  · subst h5; exact step_5 hc hi hfp hl hx0 hx1 hok hfr (hk (.inr (.inr (.inr (.inr (.inr rfl)))))) rfl
  have hE := mkE' (fn := Tryd.f13) (R := fun o h' nx' => Ext (HPW bS bA bP bU s p ++ (HQ bQ bR bH X0 X1 eU c0 c1 cU r ++ [(100, eX), (101, eY)])) h' ∧ K o h' nx') hc spst
  have no : ¬ act6 k := by rintro (w | w | w | w | w | w) <;> contradiction
  show W _ _ _ _ 90
  refine vc_sound hE 120 _ _ _ 90 ?_
  intro bx
  (refine (?_ : br _ _ _); refine br_eqF h0 ?_)
  (refine (?_ : br _ _ _); refine br_eqF h1 ?_)
  (refine (?_ : br _ _ _); refine br_eqF h2 ?_)
  (refine (?_ : br _ _ _); refine br_eqF h3 ?_)
  (refine (?_ : br _ _ _); refine br_eqF h4 ?_)
  (refine (?_ : br _ _ _); refine br_eqF h5 ?_)
  exact ⟨Ext.new rfl, hk0 no bx⟩

end Go.Proofs.YtiihiifcnkfjoaaDoor.Sx

