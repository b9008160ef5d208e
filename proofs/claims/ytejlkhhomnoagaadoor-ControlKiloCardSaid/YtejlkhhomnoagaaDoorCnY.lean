/- The laws of control: names, words. -/
import Derived.Test.YtejlkhhomnoagaaDoorCnX
set_option maxRecDepth 100000
namespace Go.Mp
open Go Go.Vc Go.Sp Go.Proofs Go.Ct

variable {E : Env} {L : List Asn} {w W : World}

/-! ### words -/

theorem word_app {a b : Bytes} (ha : word a = true) (hb : word b = true) : word (a ++ b) = decide (a.length + b.length ≤ 40) := by
  unfold word at *
  simp only [Bool.and_eq_true, List.all_eq_true, decide_eq_true_eq] at ha hb
  have h1 : (a ++ b).all wc = true := by
    rw [List.all_eq_true]
    intro c hc
    rcases List.mem_append.1 hc with hc | hc
    · exact ha.1 c hc
    · exact hb.1 c hc
  rw [h1, List.length_append, decide_eq_true (show 1 ≤ a.length + b.length by omega)]; simp
theorem word_mid {a b : Bytes} {c : UInt8} (hc : wc c = false) : word (a ++ [c] ++ b) = false := word_bad (k := a.length) (by simp) hc
theorem word_nil : word [] = false := rfl

theorem law_Words (a b : ByteArray) (c : UInt8) (l : Libs W) : Calls P fn_millpondlaw11_ControlWords #[.string a, .string b, .int .u8 c.toNat] W (Ret fun v w' => End W v w') := by
  apply of_millpondlaw11_ControlWords
  unfold sh_millpondlaw11_ControlWords
  refine use (l_works l (Sep.start W)) ?_
  rintro _ w1 ⟨rfl, h1⟩
  refine ⟨_, rfl, bifF ?_⟩
  rw [← bs_len a, ← bs_len b]
  refine ⟨fun w' => (bs a).length ≤ 120 ∧ (bs b).length ≤ 120 ∧ Sep (World.env W) [old W.heap] w', ?_, ?_⟩
  · refine bGt (fun _ => End.of (i := 0) h1 rfl) (fun h0 => ?_)
    exact bGt (fun _ => End.of (i := 0) h1 rfl) (fun h2 => ⟨by omega, by omega, h1⟩)
  · rintro _ w2 ⟨ha, hb, h2⟩
    refine use (c_Word a (by omega)) ?_
    rintro _ w3 ⟨rfl, rfl⟩
    refine ⟨_, rfl, ?_⟩
    refine use (c_Word b (by omega)) ?_
    rintro _ w4 ⟨rfl, rfl⟩
    refine ⟨_, rfl, ?_⟩
    have fin : ∀ {w' : World}, Sep (World.env W) [old W.heap] w' → Calls P fn_control_Word #[.string (ByteArray.mk #[])] w' fun e w'' => ∃ x : Bool, e = .returned (.bool x) ∧ End W (.bool (!x)) w'' := by
      intro w' h'
      refine use (c_Word (ByteArray.mk #[]) (by show 0 < _; omega)) ?_
      rintro _ w'' ⟨rfl, rfl⟩
      refine ⟨_, rfl, ?_⟩
      have : word (bs (ByteArray.mk #[])) = false := rfl
      rw [this]
      exact End.of (i := 0) h' rfl
    refine ⟨fun w' => Sep (World.env W) [old W.heap] w', ?_, ?_⟩
    · refine bifI (fun hwa => ?_) (fun _ => h2)
      refine bifI (fun hwb => ?_) (fun _ => h2)
      refine ⟨by omega, ?_⟩
      refine use (c_Word (a ++ b) (by rw [bs_append, List.length_append]; omega)) ?_
      rintro _ w5 ⟨rfl, rfl⟩
      refine ⟨_, rfl, bF ?_ h2⟩
      rw [bs_append, word_app hwa hwb, w64 (by omega) (by omega)]
      have : decide ((bs a).length + (bs b).length ≤ 40) = decide ((((bs a).length : Nat) : Int) + (((bs b).length : Nat) : Int) ≤ 40) := decide_eq_decide.2 (by omega)
      rw [this]; simp
    · rintro _ w5 h5
      refine ⟨fun ok w' => ok = wc c ∧ Sep (World.env W) [old W.heap] w', ?_, ?_⟩
      · have eq95 : (((c.toNat : Nat) : Int) == 95) = decide (c.toNat = 95) := by
          rw [Bool.eq_iff_iff]; simp; omega
        rw [eq95]
        repeat' first
          | refine bGe (fun _ => ?_) (fun _ => ?_)
          | refine bLe (fun _ => ?_) (fun _ => ?_)
        all_goals refine ⟨?_, h5⟩
        all_goals unfold wc
        all_goals first
          | (rw [decide_eq_true (show 97 ≤ c.toNat by omega), decide_eq_true (show c.toNat ≤ 122 by omega)]; rfl)
          | (rw [decide_eq_true (show 48 ≤ c.toNat by omega), decide_eq_true (show c.toNat ≤ 57 by omega)]; simp; done)
          | (have e1 : (decide (97 ≤ c.toNat) && decide (c.toNat ≤ 122)) = false := by simp; omega
             have e2 : (decide (48 ≤ c.toNat) && decide (c.toNat ≤ 57)) = false := by simp; omega
             rw [e1, e2]; rfl)
      · rintro _ ok w6 ⟨rfl, h6⟩
        refine bifT (bifI (fun _ => fin h6) (fun hc => ?_))
        refine Al.i h6 (fun q w7 h7 => ?_)
        refine toStr.i [c] 0 h7 rfl bsQ42 str9 rfl (fun j hj => ?_) ?_
        · have : j = 0 := by simpa using hj
          subst this; rfl
        · have e1 : (⟨[c].toArray⟩ : ByteArray).size = 1 := rfl
          have ea := bs_len a
          have eb := bs_len b
          have e2 : (a ++ (⟨[c].toArray⟩ : ByteArray)).size = a.size + 1 := by rw [ByteArray.size_append, e1]
          refine ⟨by rw [e1]; omega, by rw [e2]; omega, ?_⟩
          have e3 : bs (a ++ (⟨[c].toArray⟩ : ByteArray) ++ b) = bs a ++ [c] ++ bs b := by rw [bs_append, bs_append]
          refine use (c_Word _ (by rw [e3]; simp; omega)) ?_
          rintro _ w8 ⟨rfl, rfl⟩
          refine ⟨_, rfl, ?_⟩
          rw [e3, word_mid hc]
          exact bifT (fin h7.tail)

/-! ### names -/

theorem stat_more {ns : List Bytes} {vs : List Int} (h : statOk ns vs) (hl : ns.length ≤ 90) (a : Bytes) (n : Int) :
    stat (ns ++ [a]) (vs ++ [n]) = if a ∉ ns ∧ word a = true then some (render (ns.zip vs) ++ line (a, n)) else none := by
  obtain ⟨h1, h2, h3, h4⟩ := h
  by_cases hx : a ∉ ns ∧ word a = true
  · rw [if_pos hx, stat_some]
    · rw [List.zip_append h1, render_append]
      show some (_ ++ render [(a, n)]) = _
      rw [render_one]
    · refine ⟨by simp [h1], by simp; omega, fun s hs => ?_, ?_⟩
      · rcases List.mem_append.1 hs with hs | hs
        · exact h3 s hs
        · rw [List.mem_singleton.1 hs]; exact hx.2
      · rw [List.nodup_append]
        refine ⟨h4, by simp, fun x hx' y hy e => ?_⟩
        rw [List.mem_singleton.1 hy] at e
        exact hx.1 (e ▸ hx')
  · rw [if_neg hx, stat_none]
    rintro ⟨_, _, g3, g4⟩
    rw [List.nodup_append] at g4
    exact hx ⟨fun hm => g4.2.2 a hm a (by simp) rfl, g3 a (by simp)⟩

theorem law_Names {names values : Sl} {ns : List Bytes} {vs : List Int} (name : ByteArray) (n : Int) (hn : i64 n) (hN : Strs W names ns) (hV : Intz W values vs) (hv : ∀ v ∈ vs, i64 v) (l : Libs W) :
    Calls P fn_millpondlaw11_ControlNames #[.slice names.p names.n names.c, .slice values.p values.n values.c, .string name, .int .i64 n] W (Ret fun v w' => End W v w') := by
  apply of_millpondlaw11_ControlNames
  unfold sh_millpondlaw11_ControlNames
  have fin : ∀ {w' : World}, Sep (World.env W) [old W.heap] w' → Grow W w' := fun hh => grow_old (i := 0) rfl hh rfl
  have hsn := hN.n
  have hsv := hV.n
  refine use (l_works l (Sep.start W)) ?_
  rintro _ w1 ⟨rfl, h1⟩
  refine ⟨_, rfl, bifF ?_⟩
  refine ⟨fun w' => ns.length ≤ 90 ∧ vs.length ≤ 120 ∧ (∀ x ∈ ns, x.length ≤ 120) ∧ (bs name).length ≤ 120 ∧ Sep (World.env W) [old W.heap] w', ?_, ?_⟩
  · refine use (l_over (hN.grow (fin h1))) ?_
    rintro _ w2 ⟨⟨b, rfl, hb⟩, rfl⟩
    refine ⟨_, rfl, bifI (fun _ => End.of (i := 0) h1 rfl) (fun hb0 => ?_)⟩
    obtain ⟨hb1, hb2⟩ := hb hb0
    refine bGt (fun _ => End.of (i := 0) h1 rfl) (fun hv1 => ?_)
    rw [← bs_len name]
    refine bGt (fun _ => End.of (i := 0) h1 rfl) (fun ht => ?_)
    exact bGt (fun _ => End.of (i := 0) h1 rfl) (fun hk => ⟨by omega, by omega, hb2, by omega, h1⟩)
  · rintro _ w2 ⟨hl, hvl, hb2, hnl, h2⟩
    have g2 := fin h2
    have hb3 : ∀ s ∈ ns, s.length < 1000000 := fun s hs => by have := hb2 s hs; omega
    have hc := c_Stat (l.grow g2) (hN.grow g2) (hV.grow g2) hv hb3 (by omega) h2
    refine use hc ?_
    rintro v w3 ⟨hv3, g3, h3⟩
    refine ⟨mk ((stat ns vs).getD []), (if (stat ns vs).isSome then 0 else 1), by rw [hv3], ?_⟩
    by_cases hok : statOk ns vs
    case neg =>
      rw [stat_none hok]
      refine bT (by decide) (bifT ?_)
      rw [beq_bs, decide_eq_true (show bs (mk ((none : Option Bytes).getD [])) = bs (ByteArray.mk #[]) from rfl)]
      exact End.of (i := 0) h3 rfl
    rw [stat_some hok]
    refine bF rfl ?_
    have h4 : Sep (World.env W) (rowA ⟨none, 0, 0⟩ 1 [] :: [old W.heap]) w3 := rowA.none_ h3
    refine rowA.app (s := ⟨none, 0, 0⟩) h4 slStr rfl (hN.grow (fin h3)).src (by simp; omega) (fun s1 w4 hs1 h5 => ?_)
    refine Al.i h5 (fun q w5 h6 => ?_)
    have h6 : Sep (World.env W) (Sp.blk q [.string name] :: rowA s1 1 (strL ns) :: [old W.heap]) w5 := h6
    have hs1' : s1.n = ns.length := by rw [hs1]; simp
    refine str_push hs1' (by omega) h6 (fun s2 w6 hs2 h7 => ?_)
    have g6 : Grow W w6 := grow_old (i := 1) rfl h7 rfl
    have h8 := rowA.none_ (m := 1) h7
    refine rowA.app (s := ⟨none, 0, 0⟩) h8 slInt rfl (hV.grow g6).src (by simp; omega) (fun s3 w7 hs3 h9 => ?_)
    refine Al.i h9 (fun q2 w8 h10 => ?_)
    have h10 : Sep (World.env W) (Sp.blk q2 [.int .i64 n] :: rowA s3 1 (intL vs) :: rowA s2 1 (strL (ns ++ [bs name])) :: [old W.heap]) w8 := h10
    have hs3' : s3.n = vs.length := by rw [hs3]; simp
    refine int_push hs3' (by omega) h10 (fun s4 w9 hs4 h11 => ?_)
    have hb4 : ∀ s ∈ ns ++ [bs name], s.length < 1000000 := fun s hs => by
      rcases List.mem_append.1 hs with hs | hs
      · exact hb3 s hs
      · rw [List.mem_singleton.1 hs]; omega
    have hv4 : ∀ v ∈ vs ++ [n], i64 v := fun v hs => by
      rcases List.mem_append.1 hs with hs | hs
      · exact hv v hs
      · rw [List.mem_singleton.1 hs]; exact hn
    have hc := c_Stat (l.old (i := 2) rfl h11) (Strs.row (q := 1) h11 rfl hs2) (Intz.row (q := 0) h11 rfl hs4) hv4 hb4 (by simp; omega) h11
    refine use hc ?_
    rintro v w10 ⟨hv10, g10, h12⟩
    have hst := stat_more hok hl (bs name) n
    unfold StatEnd at hv10
    generalize stat (ns ++ [bs name]) (vs ++ [n]) = o at hv10 hst
    have h13 := h12.fr 2 rfl
    have h13 : Sep (World.env W) [old W.heap] w10 := h12.tail.tail
    refine ⟨mk (o.getD []), (if o.isSome then 0 else 1), by rw [hv10], ?_⟩
    refine ⟨fun b i w' => ∃ k : Nat, i = k ∧ k ≤ ns.length ∧ b = decide (bs name ∈ ns.take k) ∧ Sep (World.env W) [old W.heap] w', fun _ i _ => (ns.length - i).toNat, ⟨0, rfl, Nat.zero_le _, by simp, h13⟩, ?_⟩
    rintro _ b i w11 ⟨k, rfl, hk, rfl, h14⟩
    refine bLt (fun hlt => ?_) (fun hge => ?_)
    · obtain ⟨x, hx⟩ : ∃ x, ns[k]? = some x := ⟨_, List.getElem?_eq_getElem (by omega)⟩
      rw [wrapS (by omega)]
      refine bifI (fun hin => ?_) (fun hout => ?_)
      · refine ⟨⟨k + 1, rfl, by omega, ?_, h14⟩, by dsimp only; omega⟩
        have : bs name ∈ ns.take k := by simpa using hin
        rw [take_succ hx, decide_eq_true (List.mem_append_left _ this)]
      · refine (hN.grow (fin h14)).el k rfl hx ?_
        refine ⟨⟨k + 1, rfl, by omega, ?_, h14⟩, by dsimp only; omega⟩
        have hno : bs name ∉ ns.take k := by simpa using hout
        rw [beq_bs, bs_mk, take_succ hx]
        refine decide_eq_decide.2 ⟨fun e => by rw [e]; simp, fun hm => ?_⟩
        rcases List.mem_append.1 hm with hm | hm
        · exact absurd hm hno
        · exact (List.mem_singleton.1 hm).symm
    · have e : k = ns.length := by omega
      subst e
      rw [List.take_length]
      refine ⟨fun w' => bs name ∉ ns ∧ word (bs name) = true ∧ Sep (World.env W) [old W.heap] w', ?_, ?_⟩
      · refine bifI (fun hin => ?_) (fun hout => ?_)
        · have hm : bs name ∈ ns := by simpa using hin
          have ho : o = none := hst.trans (if_neg (fun hh => hh.1 hm))
          rw [ho]
          exact bifT (End.of (i := 0) h14 rfl)
        · have hm : bs name ∉ ns := by simpa using hout
          refine use (c_Word name (by omega)) ?_
          rintro _ w12 ⟨rfl, rfl⟩
          refine ⟨_, rfl, bifI (fun hw => ?_) (fun hw => ⟨hm, by simpa using hw, h14⟩)⟩
          have hw' : word (bs name) = false := by simpa using hw
          have ho : o = none := hst.trans (if_neg (fun hh => by rw [hw'] at hh; cases hh.2))
          rw [ho]
          exact bifT (End.of (i := 0) h14 rfl)
      · rintro _ w12 ⟨hm, hw, h15⟩
        have ho : o = some (render (ns.zip vs) ++ line (bs name, n)) := hst.trans (if_pos ⟨hm, hw⟩)
        rw [ho]
        have z1 : (mk ((some (render (ns.zip vs) ++ line (bs name, n)) : Option Bytes).getD [])).size = (render (ns.zip vs)).length + (line (bs name, n)).length := by
          show (mk (render (ns.zip vs) ++ line (bs name, n))).size = _
          rw [mk_size, List.length_append]
        have z2 : (mk ((some (render (ns.zip vs)) : Option Bytes).getD [])).size = (render (ns.zip vs)).length := mk_size _
        have z3 : 0 < (line (bs name, n)).length := by simp [line]; omega
        refine bifT (bT rfl ?_)
        refine bGt (fun _ => ⟨⟨by omega, by omega⟩, ?_⟩) (fun hh => by omega)
        rw [beq_bs, decide_eq_true]
        · exact End.of (i := 0) h15 rfl
        · rw [bs_sub, z2]
          show ((render (ns.zip vs) ++ line (bs name, n)).drop 0).take _ = render (ns.zip vs)
          rw [List.drop_zero]
          simp

end Go.Mp
