import Derived.Test.YtmohokeeglnliaaDoorSxV3
import Derived.Test.YtmohokeeglnliaaDoorSxZ
/-
  Slices of counts and of reports; of each thing something.
-/
namespace Go.Proofs.YtmohokeeglnliaaDoor.Sx
open Go Go.Proofs Go.RowKit Go.Sort
set_option maxRecDepth 100000
set_option linter.unusedSimpArgs false
set_option linter.unusedVariables false

/-- Rows of numbers: the cell k of the i-th is of the kind ks k. -/
def gK (ks : Nat → IntKind) (F : Nat → Nat → Int) : Nat → Nat → V := fun i k => .int (ks k) (F i k)
def kT : Nat → IntKind := fun _ => .u64
def kR : Nat → IntKind
  | 0 => .u64
  | 1 => .u64
  | 2 => .u64
  | _ => .i64

/-- A slice of such rows, wherever it lies. -/
def rdK (sz : Nat) (ks : Nat → IntKind) (h : Hp) (v : V) (n : Nat) (f : Nat → Nat → Int) : Prop :=
  (v = .nils ∧ n = 0) ∨ ∃ t i c b N g, v = .slice t i n c ∧ fd t (roH h) = .ro b N sz g ∧ i + n ≤ N ∧ ∃ F : Nat → Nat → Int, (∀ j k, j < N → k < sz → g j k = .int (ks k) (F j k)) ∧ ∀ j k, j < n → k < sz → f j k = F (i + j) k

theorem rdK_one {sz : Nat} {ks : Nat → IntKind} {h : Hp} {v : V} {n : Nat} {f : Nat → Nat → Int} (hv : rdK sz ks h v n f) (t0 : Nat) : ∃ (b : Option Addr) (N i c : Nat) (F : Nat → Nat → Int), i + n ≤ N ∧ (∀ j k, j < n → k < sz → f j k = F (i + j) k) ∧
    ∀ (cx : Cx) (w : World) (x : Value), Rel cx h w → vrel h v x → roOK w [(t0, .ro b N sz (gK ks F))] ∧ ∀ G : Hp, (fd t0 G).rf = some (.mem b sz) → vrel G (.slice t0 i n c) x := by
  rcases hv with ⟨rfl, rfl⟩ | ⟨t, i, c, b, N, g, rfl, e, hN, F, hF, hf⟩
  · refine ⟨none, 0, 0, 0, fun _ _ => 0, by omega, fun j k hj => by omega, fun cx w x hr rx => ⟨⟨fun i k hi hk => by omega, trivial⟩, fun G eG => ⟨none, sz, eG, rx, .inr ⟨rfl, rfl⟩⟩⟩⟩
  · refine ⟨b, N, i, c, F, hN, hf, fun cx w x hr rx => ⟨⟨fun j k hj hk => ?_, trivial⟩, fun G eG => ?_⟩⟩
    · have H := hr.ro.holds t
      rw [e] at H
      obtain ⟨ad, y, e1, e2, e3, _⟩ := H j k hj hk
      rw [hF j k hj hk] at e3
      exact ⟨ad, y, e1, e2, e3⟩
    · obtain ⟨base, sz', e1, e2, e3⟩ := rx
      have e4 : (fd t (roH h)).rf = (fd t h).rf := by rw [fd_roH, Ent.toRo_rf]
      rw [e1, e] at e4
      injection e4 with e4
      injection e4 with e4 e5
      subst e4 e5
      exact ⟨_, _, eG, e2, e3⟩

theorem toldK_one {sz : Nat} {ks : Nat → IntKind} {h : Hp} {v : V} {n : Nat} {f : Nat → Nat → Int} {rest : List V} (hv : rdK sz ks h v n f) (hf : flatL rest) : ∃ (b : Option Addr) (N i c : Nat) (F : Nat → Nat → Int), i + n ≤ N ∧ (∀ j k, j < n → k < sz → f j k = F (i + j) k) ∧
    Told h (v :: rest) [(2000, .ro b N sz (gK ks F))] (.slice 2000 i n c :: rest) := by
  obtain ⟨b, N, i, c, F, h1, h2, h3⟩ := rdK_one hv 2000
  refine ⟨b, N, i, c, F, h1, h2, ⟨fun hr hvv => ?_⟩⟩
  obtain ⟨y, ys, rfl, ry, rys⟩ := hvv
  obtain ⟨k1, k2⟩ := h3 _ _ _ hr ry
  exact ⟨rel_ros k1 hr.qtabs, y, ys, rfl, k2 _ rfl, flatL_rel _ _ hf rys⟩


def hitV (f : Nat → Int) : Int := rateV (f 1) (subV (f 0) (f 4))
def useV (f : Nat → Int) : Int := rateV (f 6) (f 5)
def sHit : Spec := fun args h nx K => match args with
  | [.agg [.int .u64 t0, .int .u64 t1, .int .u64 t2, .int .u64 t3, .int .u64 t4, .int .u64 t5, .int .u64 t6, .int .u64 t7, .int .u64 t8, .int .u64 t9]] => bnd t0 ∧ bnd t4 ∧ K (.ret (.int .u64 (rateV t1 (subV t0 t4)))) h nx
  | _ => False
theorem sHit_ok : SpecOK Tryd.prog 35 sHit := by
  refine specOK_pure (fn := Tryd.f35) rfl rfl rfl T_ok (SP := [(9, sOf)]) (consSP sOf_ok noSP) [] trivial 100 _ ?_
  intro args h nx K hs
  unfold sHit at hs
  split at hs
  · rename_i t0 t1 t2 t3 t4 t5 t6 t7 t8 t9
    obtain ⟨h0, h4, hk⟩ := hs
    refine ⟨trivial, by repeat constructor, by simp [Tryd.f35], fun o => o = .ret (.int .u64 (rateV t1 (subV t0 t4))), ?_, ?_⟩
    · rintro o rfl; exact ⟨trivial, hk⟩
    intro c hc
    clear hk
    intro b0
    refine ⟨h0, h4, ?_⟩
    exact outI rfl
  · exact hs.elim
def sG0 : Spec := fun args h nx K => match args with
  | [.agg [.int .u64 g0, .int .u64 g1, .int .u64 g2, .int .i64 n3, .int .i64 n4, .int .i64 n5]] => K (.ret (.int .u64 g0)) h nx
  | _ => False
theorem sG0_ok : SpecOK Tryd.prog 38 sG0 := by
  refine specOK_pure (fn := Tryd.f38) rfl rfl rfl T_ok (SP := []) noSP [] trivial 100 _ ?_
  intro args h nx K hs
  unfold sG0 at hs
  split at hs
  · rename_i g0 g1 g2 n3 n4 n5
    refine ⟨trivial, by repeat constructor, by simp [Tryd.f38], fun o => o = .ret (.int .u64 g0), ?_, ?_⟩
    · rintro o rfl; exact ⟨trivial, hs⟩
    intro c hc
    intro b0
    exact outI rfl
  · exact hs.elim
def sG1 : Spec := fun args h nx K => match args with
  | [.agg [.int .u64 g0, .int .u64 g1, .int .u64 g2, .int .i64 n3, .int .i64 n4, .int .i64 n5]] => K (.ret (.int .u64 g1)) h nx
  | _ => False
theorem sG1_ok : SpecOK Tryd.prog 39 sG1 := by
  refine specOK_pure (fn := Tryd.f39) rfl rfl rfl T_ok (SP := []) noSP [] trivial 100 _ ?_
  intro args h nx K hs
  unfold sG1 at hs
  split at hs
  · rename_i g0 g1 g2 n3 n4 n5
    refine ⟨trivial, by repeat constructor, by simp [Tryd.f39], fun o => o = .ret (.int .u64 g1), ?_, ?_⟩
    · rintro o rfl; exact ⟨trivial, hs⟩
    intro c hc
    intro b0
    exact outI rfl
  · exact hs.elim

def sEachT : Spec := fun args h nx K => ∃ (v : V) (n : Nat) (f : Nat → Nat → Int), args = [v, .fn (.func 35) [] []] ∧ rdK 10 kT h v n f ∧ (∀ j k, j < n → k < 10 → bnd (f j k)) ∧ n ≤ 1048576 ∧ fd nx h = .gone ∧
  ∀ (b : Nat) (g : Nat → Nat → V), (∀ j, j < n → g j 0 = .int .u64 (hitV (f j))) → (∀ j, j < n → ∃ x, g j 0 = .int .u64 x) → K (.ret (.slice nx 0 n n)) ((nx, .blk b n 1 g 22) :: h) (nx + 1)
theorem sEachT_ok : SpecOK Tryd.prog 34 sEachT := by
  refine specOK_new (fn := Tryd.f34) rfl rfl rfl T_ok (SP := [(35, sHit)]) (consSP sHit_ok noSP) 200 _ ?_
  rintro args h nx K ⟨v, n, f, rfl, hv, hb, hn, hg, hk⟩
  obtain ⟨b, N, i, c, F, hN, hF, told⟩ := toldK_one (rest := [.fn (.func 35) [] []]) hv ⟨⟨trivial, trivial⟩, trivial⟩
  refine ⟨_, _, told, by simp [Tryd.f34], fun o h1 => ∃ (bb : Nat) (FF : Nat → Int), o = .ret (.slice 9 0 n n) ∧ (∀ j, j < n → FF j = hitV (f j)) ∧ fd 9 h1 = .blk bb n 1 (g1 .u64 FF) 22, ?_, ?_⟩
  · rintro o h1 ⟨bb, FF, rfl, h2, h3⟩
    exact .inr ⟨_, 9, bb, n, 1, _, 22, .slice nx 0 n n, rfl, h3, fun i c _ _ => trivial, ⟨⟨rfl, by simp [live, fd]⟩, rfl, rfl, rfl⟩, hg, hk bb _ (fun j hj => by rw [← h2 j hj]; rfl) (fun j hj => ⟨_, rfl⟩)⟩
  intro cx hc
  clear hk told hv
  refine ⟨⟨by omega, by omega, by omega⟩, fun bb => ?_⟩
  refine W_loop (fun r σ h => ∃ (j : Nat) (FF : Nat → Int), r = n - j ∧ j ≤ n ∧ (∀ a, a < j → FF a = hitV (f a)) ∧
    σ = [(0, .slice 2000 i n c), (1, .fn (.func 35) [] []), (4, .nils), (5, .slice 9 0 j n), (11, .slice 2000 i n c), (12, .int .i64 n), (13, .int .i64 j)] ∧ h = [(2000, .ro b N 10 (gK kT F)), (9, .blk bb n 1 (g1 .u64 FF) 22)]) n ⟨0, fun _ => 0, rfl, by omega, fun a ha => by omega, rfl, rfl⟩ (tau [(9, 0)]) ⟨rfl, ?_, ?_⟩ 30 ?_
  · repeat' (first | exact rfl | exact trivial | refine ⟨?_, ?_⟩)
  · refine ⟨⟨rfl, rfl, rfl, fun i c hi hc => ⟨rfl, rfl⟩⟩, ⟨rfl, rfl, rfl, rfl, fun i c hi hc => ?_⟩, trivial⟩
    have hc : c < 1 := hc
    obtain rfl : c = 0 := by omega
    exact ⟨rfl, rfl⟩
  rintro r σ h1 ⟨j, FF, rfl, hj, hFF, rfl, rfl⟩
  refine vc_sound (mkE hc T_ok (consSP sHit_ok noSP)) 200 _ _ _ 30 ?_
  (refine (?_ : br _ _ _); refine br_dec (fun hlt => ?_) (fun hlt => ?_))
  · have hlt : (j : Int) < (n : Int) := hlt
    have hjn : j < n := by omega
    have hw : IntKind.i64.wrap ((j : Int) + 1) = ((j + 1 : Nat) : Int) := by simp [IntKind.wrap_i64]; omega
    repeat' ((refine (?_ : chk _ _)); (first
      | refine chk_ok rfl ?_
      | refine chk_ok (by simp only [Bool.and_eq_true, decide_eq_true_eq]; omega) ?_
      | refine chk_ok (Nat.ble_eq_true_of_le (show addI i j * 10 + 0 + 10 ≤ N * 10 by rw [addI_eq]; omega)) ?_))
    intro b1
    have eF : ∀ k, k < 10 → F (addI i j) k = f j k := fun k hk => by rw [hF j k hjn hk, addI_eq]
    have hb0 : bnd (F (addI i j) 0) := by rw [eF 0 (by omega)]; exact hb j 0 hjn (by omega)
    have hb4 : bnd (F (addI i j) 4) := by rw [eF 4 (by omega)]; exact hb j 4 hjn (by omega)
    refine ⟨hb0, hb4, ?_⟩
    intro b2
    (refine (?_ : br _ _ _); refine br_t (Nat.ble_eq_true_of_le (show j + 1 ≤ n by omega)) ?_)
    (refine (?_ : chk _ _); refine chk_ok (show (Nat.beq 1 1 && Nat.ble (0 + j + 1) n) = true by rw [Nat.ble_eq_true_of_le (by omega)]; rfl) ?_)
    refine ⟨fun i k hi hk => ?_, ?_⟩
    · have hi : i < 1 := hi
      have hk : k < 1 := hk
      obtain rfl : i = 0 := by omega
      obtain rfl : k = 0 := by omega
      rfl
    refine ⟨n - (j + 1), _, _, by omega, ⟨j + 1, fun a => if a = j then rateV (F (addI i j) 1) (subV (F (addI i j) 0) (F (addI i j) 4)) else FF a, rfl, by omega, fun a ha => ?_, rfl, rfl⟩, tau [], rfl, ?_, ?_⟩
    · by_cases e : a = j
      · subst e; simp only [if_true]; rw [eF 1 (by omega), eF 0 (by omega), eF 4 (by omega)]; rfl
      · simp only [if_neg e]; exact hFF a (by omega)
    · repeat' (first | exact rfl | exact trivial | exact hw | refine ⟨?_, ?_⟩)
    · exact ⟨⟨rfl, rfl, rfl, fun i c hi hc => ⟨rfl, rfl⟩⟩, ⟨rfl, rfl, rfl, rfl, fun i c hi hc => appR_int rfl i c hc⟩, trivial⟩
  · have hlt : ¬ (j : Int) < (n : Int) := hlt
    obtain rfl : j = n := by omega
    exact ⟨bb, FF, rfl, hFF, rfl⟩

def sEach0 : Spec := fun args h nx K => ∃ (v : V) (n : Nat) (f : Nat → Nat → Int), args = [v, .fn (.func 38) [] []] ∧ rdK 6 kR h v n f ∧ n ≤ 1048576 ∧ fd nx h = .gone ∧
  ∀ (b : Nat) (g : Nat → Nat → V), (∀ j, j < n → g j 0 = .int .u64 (f j 0)) → (∀ j, j < n → ∃ x, g j 0 = .int .u64 x) → K (.ret (.slice nx 0 n n)) ((nx, .blk b n 1 g 22) :: h) (nx + 1)
theorem sEach0_ok : SpecOK Tryd.prog 37 sEach0 := by
  refine specOK_new (fn := Tryd.f37) rfl rfl rfl T_ok (SP := [(38, sG0), (39, sG1)]) (consSP sG0_ok (consSP sG1_ok noSP)) 200 _ ?_
  rintro args h nx K ⟨v, n, f, rfl, hv, hn, hg, hk⟩
  obtain ⟨b, N, i, c, F, hN, hF, told⟩ := toldK_one (rest := [.fn (.func 38) [] []]) hv ⟨⟨trivial, trivial⟩, trivial⟩
  refine ⟨_, _, told, by simp [Tryd.f37], fun o h1 => ∃ (bb : Nat) (FF : Nat → Int), o = .ret (.slice 9 0 n n) ∧ (∀ j, j < n → FF j = f j 0) ∧ fd 9 h1 = .blk bb n 1 (g1 .u64 FF) 22, ?_, ?_⟩
  · rintro o h1 ⟨bb, FF, rfl, h2, h3⟩
    exact .inr ⟨_, 9, bb, n, 1, _, 22, .slice nx 0 n n, rfl, h3, fun i c _ _ => trivial, ⟨⟨rfl, by simp [live, fd]⟩, rfl, rfl, rfl⟩, hg, hk bb _ (fun j hj => by rw [← h2 j hj]; rfl) (fun j hj => ⟨_, rfl⟩)⟩
  intro cx hc
  clear hk told hv
  refine ⟨⟨by omega, by omega, by omega⟩, fun bb => ?_⟩
  refine W_loop (fun r σ h => ∃ (j : Nat) (FF : Nat → Int), r = n - j ∧ j ≤ n ∧ (∀ a, a < j → FF a = f a 0) ∧
    σ = [(0, .slice 2000 i n c), (1, .fn (.func 38) [] []), (4, .nils), (5, .slice 9 0 j n), (11, .slice 2000 i n c), (12, .int .i64 n), (13, .int .i64 j)] ∧ h = [(2000, .ro b N 6 (gK kR F)), (9, .blk bb n 1 (g1 .u64 FF) 22)]) n ⟨0, fun _ => 0, rfl, by omega, fun a ha => by omega, rfl, rfl⟩ (tau [(9, 0)]) ⟨rfl, ?_, ?_⟩ 30 ?_
  · repeat' (first | exact rfl | exact trivial | refine ⟨?_, ?_⟩)
  · refine ⟨⟨rfl, rfl, rfl, fun i c hi hc => ⟨rfl, rfl⟩⟩, ⟨rfl, rfl, rfl, rfl, fun i c hi hc => ?_⟩, trivial⟩
    have hc : c < 1 := hc
    obtain rfl : c = 0 := by omega
    exact ⟨rfl, rfl⟩
  rintro r σ h1 ⟨j, FF, rfl, hj, hFF, rfl, rfl⟩
  refine vc_sound (mkE hc T_ok (consSP sG0_ok (consSP sG1_ok noSP))) 200 _ _ _ 30 ?_
  (refine (?_ : br _ _ _); refine br_dec (fun hlt => ?_) (fun hlt => ?_))
  · have hlt : (j : Int) < (n : Int) := hlt
    have hjn : j < n := by omega
    have hw : IntKind.i64.wrap ((j : Int) + 1) = ((j + 1 : Nat) : Int) := by simp [IntKind.wrap_i64]; omega
    repeat' ((refine (?_ : chk _ _)); (first
      | refine chk_ok rfl ?_
      | refine chk_ok (by simp only [Bool.and_eq_true, decide_eq_true_eq]; omega) ?_
      | refine chk_ok (Nat.ble_eq_true_of_le (show addI i j * 6 + 0 + 6 ≤ N * 6 by rw [addI_eq]; omega)) ?_))
    intro b1
    have eF : ∀ k, k < 6 → F (addI i j) k = f j k := fun k hk => by rw [hF j k hjn hk, addI_eq]
    
    intro b2
    (refine (?_ : br _ _ _); refine br_t (Nat.ble_eq_true_of_le (show j + 1 ≤ n by omega)) ?_)
    (refine (?_ : chk _ _); refine chk_ok (show (Nat.beq 1 1 && Nat.ble (0 + j + 1) n) = true by rw [Nat.ble_eq_true_of_le (by omega)]; rfl) ?_)
    refine ⟨fun i k hi hk => ?_, ?_⟩
    · have hi : i < 1 := hi
      have hk : k < 1 := hk
      obtain rfl : i = 0 := by omega
      obtain rfl : k = 0 := by omega
      rfl
    refine ⟨n - (j + 1), _, _, by omega, ⟨j + 1, fun a => if a = j then F (addI i j) 0 else FF a, rfl, by omega, fun a ha => ?_, rfl, rfl⟩, tau [], rfl, ?_, ?_⟩
    · by_cases e : a = j
      · subst e; simp only [if_true]; exact eF 0 (by omega)
      · simp only [if_neg e]; exact hFF a (by omega)
    · repeat' (first | exact rfl | exact trivial | exact hw | refine ⟨?_, ?_⟩)
    · exact ⟨⟨rfl, rfl, rfl, fun i c hi hc => ⟨rfl, rfl⟩⟩, ⟨rfl, rfl, rfl, rfl, fun i c hi hc => appR_int rfl i c hc⟩, trivial⟩
  · have hlt : ¬ (j : Int) < (n : Int) := hlt
    obtain rfl : j = n := by omega
    exact ⟨bb, FF, rfl, hFF, rfl⟩

def sEach1 : Spec := fun args h nx K => ∃ (v : V) (n : Nat) (f : Nat → Nat → Int), args = [v, .fn (.func 39) [] []] ∧ rdK 6 kR h v n f ∧ n ≤ 1048576 ∧ fd nx h = .gone ∧
  ∀ (b : Nat) (g : Nat → Nat → V), (∀ j, j < n → g j 0 = .int .u64 (f j 1)) → (∀ j, j < n → ∃ x, g j 0 = .int .u64 x) → K (.ret (.slice nx 0 n n)) ((nx, .blk b n 1 g 22) :: h) (nx + 1)
theorem sEach1_ok : SpecOK Tryd.prog 37 sEach1 := by
  refine specOK_new (fn := Tryd.f37) rfl rfl rfl T_ok (SP := [(38, sG0), (39, sG1)]) (consSP sG0_ok (consSP sG1_ok noSP)) 200 _ ?_
  rintro args h nx K ⟨v, n, f, rfl, hv, hn, hg, hk⟩
  obtain ⟨b, N, i, c, F, hN, hF, told⟩ := toldK_one (rest := [.fn (.func 39) [] []]) hv ⟨⟨trivial, trivial⟩, trivial⟩
  refine ⟨_, _, told, by simp [Tryd.f37], fun o h1 => ∃ (bb : Nat) (FF : Nat → Int), o = .ret (.slice 9 0 n n) ∧ (∀ j, j < n → FF j = f j 1) ∧ fd 9 h1 = .blk bb n 1 (g1 .u64 FF) 22, ?_, ?_⟩
  · rintro o h1 ⟨bb, FF, rfl, h2, h3⟩
    exact .inr ⟨_, 9, bb, n, 1, _, 22, .slice nx 0 n n, rfl, h3, fun i c _ _ => trivial, ⟨⟨rfl, by simp [live, fd]⟩, rfl, rfl, rfl⟩, hg, hk bb _ (fun j hj => by rw [← h2 j hj]; rfl) (fun j hj => ⟨_, rfl⟩)⟩
  intro cx hc
  clear hk told hv
  refine ⟨⟨by omega, by omega, by omega⟩, fun bb => ?_⟩
  refine W_loop (fun r σ h => ∃ (j : Nat) (FF : Nat → Int), r = n - j ∧ j ≤ n ∧ (∀ a, a < j → FF a = f a 1) ∧
    σ = [(0, .slice 2000 i n c), (1, .fn (.func 39) [] []), (4, .nils), (5, .slice 9 0 j n), (11, .slice 2000 i n c), (12, .int .i64 n), (13, .int .i64 j)] ∧ h = [(2000, .ro b N 6 (gK kR F)), (9, .blk bb n 1 (g1 .u64 FF) 22)]) n ⟨0, fun _ => 0, rfl, by omega, fun a ha => by omega, rfl, rfl⟩ (tau [(9, 0)]) ⟨rfl, ?_, ?_⟩ 30 ?_
  · repeat' (first | exact rfl | exact trivial | refine ⟨?_, ?_⟩)
  · refine ⟨⟨rfl, rfl, rfl, fun i c hi hc => ⟨rfl, rfl⟩⟩, ⟨rfl, rfl, rfl, rfl, fun i c hi hc => ?_⟩, trivial⟩
    have hc : c < 1 := hc
    obtain rfl : c = 0 := by omega
    exact ⟨rfl, rfl⟩
  rintro r σ h1 ⟨j, FF, rfl, hj, hFF, rfl, rfl⟩
  refine vc_sound (mkE hc T_ok (consSP sG0_ok (consSP sG1_ok noSP))) 200 _ _ _ 30 ?_
  (refine (?_ : br _ _ _); refine br_dec (fun hlt => ?_) (fun hlt => ?_))
  · have hlt : (j : Int) < (n : Int) := hlt
    have hjn : j < n := by omega
    have hw : IntKind.i64.wrap ((j : Int) + 1) = ((j + 1 : Nat) : Int) := by simp [IntKind.wrap_i64]; omega
    repeat' ((refine (?_ : chk _ _)); (first
      | refine chk_ok rfl ?_
      | refine chk_ok (by simp only [Bool.and_eq_true, decide_eq_true_eq]; omega) ?_
      | refine chk_ok (Nat.ble_eq_true_of_le (show addI i j * 6 + 0 + 6 ≤ N * 6 by rw [addI_eq]; omega)) ?_))
    intro b1
    have eF : ∀ k, k < 6 → F (addI i j) k = f j k := fun k hk => by rw [hF j k hjn hk, addI_eq]
    
    intro b2
    (refine (?_ : br _ _ _); refine br_t (Nat.ble_eq_true_of_le (show j + 1 ≤ n by omega)) ?_)
    (refine (?_ : chk _ _); refine chk_ok (show (Nat.beq 1 1 && Nat.ble (0 + j + 1) n) = true by rw [Nat.ble_eq_true_of_le (by omega)]; rfl) ?_)
    refine ⟨fun i k hi hk => ?_, ?_⟩
    · have hi : i < 1 := hi
      have hk : k < 1 := hk
      obtain rfl : i = 0 := by omega
      obtain rfl : k = 0 := by omega
      rfl
    refine ⟨n - (j + 1), _, _, by omega, ⟨j + 1, fun a => if a = j then F (addI i j) 1 else FF a, rfl, by omega, fun a ha => ?_, rfl, rfl⟩, tau [], rfl, ?_, ?_⟩
    · by_cases e : a = j
      · subst e; simp only [if_true]; exact eF 1 (by omega)
      · simp only [if_neg e]; exact hFF a (by omega)
    · repeat' (first | exact rfl | exact trivial | exact hw | refine ⟨?_, ?_⟩)
    · exact ⟨⟨rfl, rfl, rfl, fun i c hi hc => ⟨rfl, rfl⟩⟩, ⟨rfl, rfl, rfl, rfl, fun i c hi hc => appR_int rfl i c hc⟩, trivial⟩
  · have hlt : ¬ (j : Int) < (n : Int) := hlt
    obtain rfl : j = n := by omega
    exact ⟨bb, FF, rfl, hFF, rfl⟩
end Go.Proofs.YtmohokeeglnliaaDoor.Sx
