/- The other laws of pages. -/
import Derived.Test.YtbkmfficnnfljaaPgL
set_option maxRecDepth 100000
namespace Go.Mp
open Go Go.Vc Go.Sp

variable {E : Env} {L : List Asn} {w : World}

theorem TS.get_some {S : TS} {id : Int} {p : Pg} (h : S.pg id = some p) : S.get id = (p, 0) := by unfold TS.get; rw [h]
theorem TS.get_none {S : TS} {id : Int} (h : S.pg id = none) : S.get id = (Pg.zero, 2) := by unfold TS.get; rw [h]

/-- Other pages have other keys, and other places. -/
theorem Inv.apart {S : TS} {R : List One} (I : Inv S R) {i j : Int} {p q : Pg} (hp : rpg R i = some p) (hq : rpg R j = some q) (hij : i ≠ j) :
    (q.kf, q.ki) ≠ (p.kf, p.ki) ∧ (q.place ≠ 0 → q.place = p.place → q.at_ ≠ p.at_) := by
  constructor
  · intro e
    simp only [Prod.mk.injEq] at e
    by_cases hk : p.kf < 0
    · have h1 := I.own i p hp hk
      have h2 := I.own j q hq (by omega)
      omega
    · have h1 := (I.files (p.kf, p.ki) i).2 ⟨by show 0 ≤ p.kf; omega, p, hp, rfl⟩
      have h2 := (I.files (p.kf, p.ki) j).2 ⟨by show 0 ≤ p.kf; omega, q, hq, by rw [e.1, e.2]⟩
      rw [h1] at h2; exact hij (Option.some.inj h2)
  · intro hz e1 e2
    have h1 := (I.spots (q.place, q.at_) i).2 ⟨hz, p, hp, by rw [e1, e2]⟩
    have h2 := (I.spots (q.place, q.at_) j).2 ⟨hz, q, hq, rfl⟩
    rw [h1] at h2; exact hij (Option.some.inj h2)

theorem law_PagesOnce {W : World} (l : Sl) (hl : ActsAt W l.p l.n) :
    Calls P fn_millpondlaw14_PagesOnce #[.slice l.p l.n l.c] W (Ret fun v w' => v = .bool true ∧ ∃ (L : List Asn) (i : Nat), L[i]? = some (old W.heap) ∧ Sep (World.env W) L w') := by
  apply of_millpondlaw14_PagesOnce
  unfold sh_millpondlaw14_PagesOnce
  refine use (c_works (Sep.start W)) ?_
  rintro _ w1 ⟨rfl, h1⟩
  refine ⟨_, rfl, bifF (bGt (fun _ => ⟨rfl, _, 0, rfl, h1⟩) (fun h80 => use (c_New h1) ?_))⟩
  rintro _ w2 ⟨t, rfl, h2⟩
  refine ⟨_, rfl, runActs hl (by omega) h2 (fun i S R w3 I hR h3 => use (c_All' I.few (by omega) h3) ?_)⟩
  rintro _ w4 ⟨s, al, rfl, hn, hal, h4⟩
  have hle := hal.le I.few
  have hmem : ∀ k, k < al.length → ∃ p, rpg R (al.getD k 0) = some p := by
    intro k hk
    have hm : al.getD k 0 ∈ al := by simp [List.getD, hk]
    have := (hal.mem _).1 hm
    rw [I.pg] at this
    exact Option.isSome_iff_exists.1 this
  have hlt : ∀ j k, j < k → k < al.length → al.getD j 0 < al.getD k 0 := by
    intro j k hjk hk
    have := List.pairwise_iff_getElem.1 hal.rise j k (by omega) hk hjk
    simpa [List.getD, hk, show j < al.length by omega] using this
  refine ⟨s, rfl, fun i w => (0 ≤ i ∧ i ≤ al.length) ∧ Sep (World.env W) (rowA s 1 (intL al) :: Tab t S :: [old W.heap]) w, fun i _ => (al.length - i).toNat, ⟨⟨by omega, by omega⟩, h4⟩, ?_⟩
  rintro _ i w5 ⟨⟨hi0, hi1⟩, h5⟩
  rw [hn]
  refine bLt (fun hi2 => ?_) (fun _ => ⟨rfl, _, 2, rfl, h5⟩)
  obtain ⟨p, hp⟩ := hmem i.toNat (by omega)
  have hg := TS.get_some ((I.pg _).trans hp)
  have hok := I.ok _ p hp
  rw [← hn]
  refine elI 0 h5 rfl hn hi0 hi2 (fun a ha => ⟨_, ha, got (h5.fr 1 rfl) _ (fun b w6 h6 => ?_)⟩)
  rw [hg] at h6 ⊢
  have h6 : Sep (World.env W) (rowA s 1 (intL al) :: blk b p.vs :: Tab t S :: [old W.heap]) w6 := h6.ro 4 [2, 0, 1, 3] rfl
  refine ⟨fun w => Sep (World.env W) (rowA s 1 (intL al) :: blk b p.vs :: Tab t S :: [old W.heap]) w, ?_, ?_⟩
  · refine Dr.i h6 (fun w7 h7 => bNe (fun e => absurd rfl e) (fun _ => ld h7 1 rfl rfl rfl (bLt (fun e => ?_) (fun _ => bGt (fun hi3 => ?_) (fun _ => h7)))))
    · have := hok.2.2.2; omega
    · rw [w64 (by omega) (by omega)]
      refine elI 0 h7 rfl hn (by omega) (by omega) (fun a1 ha1 => ⟨_, ha1, elI 0 h7 rfl hn hi0 hi2 (fun a2 ha2 => ⟨_, ha2, bGe (fun hge => ?_) (fun _ => h7)⟩)⟩)
      have := hlt (i - 1).toNat i.toNat (by omega) (by omega)
      omega
  rintro _ w7 h7
  have hof : 0 ≤ p.kf → S.of (p.kf, p.ki) = al.getD i.toNat 0 := fun h0 => I.of_ (.inl ⟨h0, p, hp, rfl⟩)
  have hat : p.place ≠ 0 → S.at_ (p.place, p.at_) = al.getD i.toNat 0 := fun h0 => I.at_ (.inl ⟨h0, p, hp, rfl⟩)
  refine ⟨fun w => Sep (World.env W) (rowA s 1 (intL al) :: blk b p.vs :: Tab t S :: [old W.heap]) w, ?_, ?_⟩
  · refine Dr.i h7 (fun w8 h8 => ld h8 1 rfl rfl rfl (bNe (fun hz => ?_) (fun hz => ?_)))
    · refine ld h8 1 rfl rfl rfl (ld h8 1 rfl rfl rfl (elJ 0 h8 rfl hn hi0 hi2 (fun a1 ha1 => ⟨_, ha1 0 h8 rfl, use (c_At _ _ (h8.fr 2 rfl)) ?_⟩)))
      rintro _ w9 ⟨rfl, rfl⟩
      refine ⟨_, rfl, _, ha1 0 h8 rfl, rfl, bNe (fun e => absurd (hat hz) e) (fun _ => ld h8 1 rfl rfl rfl (bGe (fun hk => ?_) (fun _ => h8)))⟩
      refine ld h8 1 rfl rfl rfl (ld h8 1 rfl rfl rfl (elJ 0 h8 rfl hn hi0 hi2 (fun a3 ha3 => ⟨_, ha3 0 h8 rfl, use (c_Of (p.kf, p.ki) (h8.fr 2 rfl)) ?_⟩)))
      rintro _ w10 ⟨rfl, h10⟩
      have h10 : Sep (World.env W) (rowA s 1 (intL al) :: blk b p.vs :: Tab t S :: [old W.heap]) w10 := h10.ro 4 [1, 2, 0, 3] rfl
      exact ⟨_, rfl, _, ha3 0 h10 rfl, rfl, bNe (fun e => absurd (hof hk) e) (fun _ => h10)⟩
    · refine ld h8 1 rfl rfl rfl (bGe (fun hk => ?_) (fun _ => h8))
      refine ld h8 1 rfl rfl rfl (ld h8 1 rfl rfl rfl (elJ 0 h8 rfl hn hi0 hi2 (fun a3 ha3 => ⟨_, ha3 0 h8 rfl, use (c_Of (p.kf, p.ki) (h8.fr 2 rfl)) ?_⟩)))
      rintro _ w10 ⟨rfl, h10⟩
      have h10 : Sep (World.env W) (rowA s 1 (intL al) :: blk b p.vs :: Tab t S :: [old W.heap]) w10 := h10.ro 4 [1, 2, 0, 3] rfl
      exact ⟨_, rfl, _, ha3 0 h10 rfl, rfl, bNe (fun e => absurd (hof hk) e) (fun _ => h10)⟩
  rintro _ w8 h8
  refine ⟨fun k w => (0 ≤ k ∧ k ≤ i) ∧ Sep (World.env W) (rowA s 1 (intL al) :: blk b p.vs :: Tab t S :: [old W.heap]) w, fun k _ => (i - k).toNat, ⟨⟨by omega, by omega⟩, h8⟩, ?_⟩
  rintro _ k w9 ⟨⟨hk0, hk1⟩, h9⟩
  refine bLt (fun hk2 => ?_) (fun _ => ?_)
  · obtain ⟨q, hq⟩ := hmem k.toNat (by omega)
    have hgq := TS.get_some ((I.pg _).trans hq)
    have hap := I.apart hp hq (by have := hlt k.toNat i.toNat (by omega) (by omega); omega)
    refine elI 0 h9 rfl hn hk0 (by omega) (fun a ha => ⟨_, ha, got (h9.fr 2 rfl) _ (fun b2 w10 h10 => ?_)⟩)
    rw [hgq] at h10
    have h10 : Sep (World.env W) (blk b2 q.vs :: rowA s 1 (intL al) :: blk b p.vs :: Tab t S :: [old W.heap]) w10 := h10.ro 5 [0, 2, 3, 1, 4] rfl
    refine ld h10 0 rfl rfl rfl (ld h10 0 rfl rfl rfl (ld h10 2 rfl rfl rfl (ld h10 2 rfl rfl rfl ?_)))
    obtain ⟨r, hr1, hr2⟩ := key_eq (q.kf, q.ki) (p.kf, p.ki)
    refine ⟨r, hr1, bifI (fun ht => absurd (hr2.1 ht) hap.1) (fun _ => ?_)⟩
    have step : (((0 ≤ IntKind.i64.wrap (k + 1) ∧ IntKind.i64.wrap (k + 1) ≤ i) ∧ Sep (World.env W) (rowA s 1 (intL al) :: blk b p.vs :: Tab t S :: [old W.heap]) w10) ∧ (i - IntKind.i64.wrap (k + 1)).toNat < (i - k).toNat) := by
      rw [w64 (by omega) (by omega)]
      exact ⟨⟨⟨by omega, by omega⟩, h10.tail⟩, by omega⟩
    refine ld h10 0 rfl rfl rfl (bNe (fun hz => ?_) (fun _ => step))
    refine ld h10 0 rfl rfl rfl (ld h10 2 rfl rfl rfl (bEq (fun e1 => ?_) (fun _ => step)))
    exact ld h10 0 rfl rfl rfl (ld h10 2 rfl rfl rfl (bEq (fun e2 => absurd e2 (hap.2 hz e1)) (fun _ => step)))
  · refine ld h9 1 rfl rfl rfl (use (c_Those p.owner I.few (by omega) (h9.fr 2 rfl)) ?_)
    rintro _ w10 ⟨s2, l2, rfl, hl2, hn2, h10⟩
    have h10 : Sep (World.env W) (rowA s2 1 (intL (l2.filter fun x => !S.notOf p.owner x)) :: rowA s 1 (intL al) :: blk b p.vs :: Tab t S :: [old W.heap]) w10 := h10.ro 5 [0, 2, 3, 1, 4] rfl
    have hin : al.getD i.toNat 0 ∈ (l2.filter fun x => !S.notOf p.owner x) := by
      rw [I.those_eq hl2, idsR_mem]; exact ⟨p, hp, .inr rfl⟩
    have hle2 : (l2.filter fun x => !S.notOf p.owner x).length < 1000000 := Nat.lt_of_le_of_lt (List.length_filter_le _ _) (by have := hl2.le I.few; omega)
    generalize (l2.filter fun x => !S.notOf p.owner x) = fl at h10 hin hn2 hle2
    refine ⟨s2, rfl, fun b k w => (0 ≤ k ∧ k ≤ fl.length) ∧ (b = false → ∀ m, m < k.toNat → fl.getD m 0 ≠ al.getD i.toNat 0) ∧ Sep (World.env W) (rowA s2 1 (intL fl) :: rowA s 1 (intL al) :: [blk _ p.vs, Tab t S, old W.heap]) w, fun _ k _ => (fl.length - k).toNat, ⟨⟨by omega, by omega⟩, fun _ m hm => absurd hm (Nat.not_lt_zero _), h10⟩, ?_⟩
    rintro _ ib k2 w11 ⟨⟨hm0, hm1⟩, hno, h11⟩
    rw [hn2]
    refine bLt (fun hm2 => Dr.i h11 (fun w12 h12 => ?_)) (fun hm2 => ?_)
    · rw [w64 (by omega) (by omega)]
      refine bifI (fun _ => ⟨⟨⟨by omega, by omega⟩, fun e => by simp at e, h12⟩, by show ((fl.length : Int) - (k2 + 1)).toNat < ((fl.length : Int) - k2).toNat; omega⟩) (fun hib => ?_)
      rw [← hn2]
      refine elI 0 h12 rfl hn2 hm0 hm2 (fun a1 ha1 => ⟨_, ha1, elI 1 h12 rfl hn hi0 hi2 (fun a2 ha2 => ⟨_, ha2, ⟨⟨by omega, by omega⟩, fun e m hm => ?_, h12⟩, ?_⟩)⟩)
      · by_cases hmk : m < k2.toNat
        · exact hno hib m hmk
        · have : m = k2.toNat := by omega
          subst this
          simpa using e
      · dsimp only; omega
    · have hib : ib = true := by
        cases ib with
        | true => rfl
        | false =>
          obtain ⟨m, hm, he⟩ := List.mem_iff_getElem.1 hin
          have := hno rfl m (by omega)
          simp [List.getD, hm, he] at this
      subst hib
      rw [w64 (by omega) (by omega)]
      exact bifF ⟨⟨⟨by omega, by omega⟩, h11.re [1, 3, 4] rfl⟩, by dsimp only; omega⟩

end Go.Mp
