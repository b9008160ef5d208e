/- Script: the document's example, and the five laws. -/
import Derived.Test.YtkjihkmkchcmcaaGreatDoorScY
set_option maxRecDepth 100000
namespace Go.Scr
open Go.Ct Go.Lib
def ex8 : Op := ⟨8, 0, 300, 0, 0⟩
theorem ok8 : Ok ex8 := (okB_iff ex8).1 (by decide)
theorem ok3 : Ok ⟨3, 0, 0, 0, 0⟩ := (okB_iff _).1 (by decide)
theorem text8 : text [ex8] = [8, 0, 172, 2, 0, 0] := by
  rw [text_one]
  unfold code ex8
  simp only [show (0 : Int).toNat = 0 from rfl, show (300 : Int).toNat = 300 from rfl, show (8 : Int).toNat = 8 from rfl]
  rw [enc_small (n := 0) (by omega), enc_big (n := 300) (by omega), enc_small (n := 300 / 128) (by omega)]
  rfl
theorem text3 : text [⟨3, 0, 0, 0, 0⟩] = [3, 0, 0, 0, 0] := by
  rw [text_one]
  unfold code
  simp only [show (0 : Int).toNat = 0 from rfl, show (3 : Int).toNat = 3 from rfl]
  rw [enc_small (n := 0) (by omega)]
  rfl
theorem text_take_drop (l : List Op) (k : Nat) : (text (l.take k)).length + (text (l.drop k)).length = (text l).length := by
  rw [← List.length_append, ← text_append, List.take_append_drop]
theorem Got.rest {s r : Bytes} {l : List Op} (h : Got s l r) : Got (text l) l [] := Got.full h.ok h.few
end Go.Scr
namespace Go.Mp
open Go Go.Vc Go.Sp Go.Proofs Go.Ct

variable {E : Env} {L : List Asn} {w W : World}

def End (W : World) (v : Value) (w' : World) : Prop := v = .bool true ∧ ∃ (L : List Asn) (i : Nat), L[i]? = some (old W.heap) ∧ Sep (World.env W) L w'
theorem End.of {i : Nat} (h : Sep (World.env W) L w) (hi : L[i]? = some (old W.heap)) : End W (.bool true) w := ⟨rfl, L, i, hi, h⟩
theorem gold {w' : World} (h : Sep (World.env W) [old W.heap] w') : Grow W w' := grow_old (i := 0) rfl h rfl
theorem bEq' {a b : Int} {A B : Prop} (h : a = b) (k : A) : bif (a == b) then A else B := bEq (fun _ => k) (fun e => absurd h e)
theorem bNe {a b : Int} {A B : Prop} (h : a = b) (k : B) : bif (a != b) then A else B := by
  subst h; simpa using k

theorem bNeT {a b : Int} {A B : Prop} (h : a ≠ b) (k : A) : bif (a != b) then A else B := bT (by simpa using h) k

theorem c_Play {s : Sl} (hB : Byt W s [3, 0, 0, 0, 0]) (hc : s.n ≤ s.c) (h : Sep E L W) : Calls P fn_script_Play #[.int .i64 2, .int .i64 2, .slice none 0 0, .slice s.p s.n s.c] W (Ret fun v w' => (∃ (x : Sl) (a : Addr), v = .tuple #[.slice x.p x.n x.c, .int .i64 0] ∧ x.n = 1 ∧ x.p = some a ∧ w'.cell? (a.add 0) = some (.int .i64 0)) ∧ Grow W w' ∧ Sep E L w') := by
  apply of_script_Play 2 2 ⟨none, 0, 0⟩
  unfold sh_script_Play
  refine use (c_Get hB hc (by decide) h) ?_
  rintro _ w1 ⟨⟨l, r, x, e, n, G, rfl, hO, hr⟩, g1, h1⟩
  have G3 := Scr.Got.full (l := [⟨3, 0, 0, 0, 0⟩]) (fun o ho => by rw [List.mem_singleton.1 ho]; exact Scr.ok3) (by decide)
  rw [Scr.text3] at G3
  obtain ⟨rfl, rfl⟩ := G.uniq G3
  rcases hr with ⟨_, rfl, rfl⟩ | ⟨hne, _⟩
  · refine ⟨x, 0, 0, rfl, ?_⟩
    refine use (c_Run0 hO h1) ?_
    rintro _ w2 ⟨⟨y, a, rfl, hy, hp, hcell⟩, g2, h2⟩
    exact ⟨y, rfl, ⟨y, a, rfl, hy, hp, hcell⟩, g1.trans g2, h2⟩
  · exact absurd rfl hne

theorem Al.g {c : Array Value} {t : TypeId} {f : Addr → World → Prop} (h : Sep E L w) (k : ∀ b w1, Grow w w1 → Sep E (blk b c.toList :: L) w1 → f ⟨b, 0, none⟩ w1) : Al (.cells c t) f w := k _ _ (Grow.alloc w _) (h.alloc c t)
theorem GetEnd.full {l : List Scr.Op} {s : Bytes} {v : Value} (h : GetEnd s v w) (hs : s = Scr.text l) (hok : PutOk l) : ∃ x : Sl, v = .tuple #[.slice x.p x.n x.c, .int .i64 0, .int .i64 0] ∧ Ops w x l := by
  subst hs
  obtain ⟨m, r, x, e, n, G, rfl, hO, hr⟩ := h
  obtain ⟨rfl, rfl⟩ := G.uniq (Scr.Got.full hok.1 hok.2)
  rcases hr with ⟨_, rfl, rfl⟩ | ⟨hne, _⟩
  · exact ⟨x, rfl, hO⟩
  · exact absurd rfl hne

theorem l_works (h : Sep E L W) : Calls P fn_millpondlaw20_works #[] W (Ret fun v w' => v = .bool true ∧ Grow W w' ∧ Sep E L w') := by
  apply of_millpondlaw20_works
  unfold sh_millpondlaw20_works
  have fin : ∀ {w' : World} {L' : List Asn} {i : Nat}, Sep (World.env W) L' w' → L'[i]? = some (old W.heap) → Grow W w' := fun hh hi => grow_old rfl hh hi
  refine Al.i (Sep.start W) (fun p1 w1 h1 => ?_)
  have h1 : Sep (World.env W) [blk p1 Scr.ex8.vs, old W.heap] w1 := h1
  have hO : Ops w1 ⟨some ⟨p1, 0, none⟩, 1, 1⟩ [Scr.ex8] :=
    Ops.row (q := 0) (rowA.make (b := p1) (n := 1) (c := 1) (m := 5) (spare := []) (vs := recs Scr.Op.vs [Scr.ex8]) h1 rfl rfl (Nat.le_refl _)) rfl rfl
  have hok : PutOk [Scr.ex8] := ⟨fun o ho => by rw [List.mem_singleton.1 ho]; exact Scr.ok8, by decide⟩
  have hput := c_Put (s := ⟨some ⟨p1, 0, none⟩, 1, 1⟩) (l := [Scr.ex8]) hO h1
  refine use hput ?_
  rintro _ w2 ⟨he, g12⟩
  rcases he with ⟨_, x5, rfl, hn5, h2⟩ | ⟨hno, _⟩
  rotate_left
  · exact absurd hok hno
  have hB := Byt.row (q := 0) h2 rfl hn5
  have hc5 := rowA.cap h2
  refine ⟨x5, 0, rfl, ?_⟩
  refine use (c_Get hB hc5 (by rw [Scr.text8]; decide) h2) ?_
  rintro _ w3 ⟨hg, g23, h3⟩
  obtain ⟨x9, rfl, hO9⟩ := hg.full rfl hok
  refine ⟨x9, 0, 0, rfl, ?_⟩
  refine Al.g h3 (fun p12 w4 g34 h4 => ?_)
  have h4 : Sep (World.env W) (blk p12 (u8s [3, 0, 0, 0, 0]) :: rowA x5 1 (u8s (Scr.text [Scr.ex8])) :: [blk p1 Scr.ex8.vs, old W.heap]) w4 := h4
  have h5 : Sep (World.env W) (rowA ⟨some ⟨p12, 0, none⟩, 5, 5⟩ 1 (u8s [3, 0, 0, 0, 0]) :: rowA x5 1 (u8s (Scr.text [Scr.ex8])) :: [blk p1 Scr.ex8.vs, old W.heap]) w4 :=
    rowA.make (b := p12) (n := 5) (c := 5) (m := 1) (spare := []) (vs := u8s [3, 0, 0, 0, 0]) h4 rfl rfl (Nat.le_refl _)
  have hB3 : Byt w4 ⟨some ⟨p12, 0, none⟩, 5, 5⟩ [3, 0, 0, 0, 0] := Byt.row (q := 0) h5 rfl rfl
  have hplay := c_Play (s := ⟨some ⟨p12, 0, none⟩, 5, 5⟩) hB3 (Nat.le_refl _) h5
  refine use hplay ?_
  rintro _ w6 ⟨⟨y, a, rfl, hyn, hyp, hcell⟩, g46, h6⟩
  refine ⟨y, 0, rfl, ?_⟩
  refine ⟨_, cvI ((hB.grow (g23.trans g34)).grow g46), ?_⟩
  rw [Scr.text8]
  refine bS (fun _ => ?_) (fun hne => absurd rfl hne)
  have hO6 := hO9.grow (g34.trans g46)
  have hn9 : x9.n = 1 := hO6.n
  refine bEq' rfl (bEq' (by rw [hn9]; rfl) ?_)
  refine hO6.at_ 0 rfl rfl (fun q hq => ?_)
  refine ⟨300, hq w6 (Grow.refl _) 2 _ rfl, ?_⟩
  refine bEq' rfl (bEq' rfl (bEq' rfl (bEq' (by rw [hyn]; rfl) ?_)))
  refine ⟨a, hyp, ⟨by decide, by rw [hyn]; decide⟩, 0, by rw [show (0 : Int).toNat * 3 = 0 from rfl, Addr.add_zero_]; exact hcell, ?_⟩
  refine bEq' rfl (bEq' rfl ?_)
  refine hO6.at_ 0 rfl rfl (fun q hq => ?_)
  have hq := hq w6 (Grow.refl _)
  refine ⟨_, hq 0 _ rfl, _, hq 1 _ rfl, _, hq 2 _ rfl, _, hq 3 _ rfl, _, hq 4 _ rfl, ?_⟩
  refine use (c_Size Scr.ex8 h6) ?_
  rintro _ w7 ⟨rfl, g67, h7⟩
  have g := fin (i := 3) h7 rfl
  refine ⟨_, rfl, ?_, g, h.grow g⟩
  rw [(Scr.okB_iff _).2 Scr.ok8, if_pos rfl, ← Scr.text_one, Scr.text8]
  rfl

theorem law_Puts {s : Sl} {l : List Scr.Op} (o : Scr.Op) (hO : Ops W s l) : Calls P fn_millpondlaw20_ScriptPuts #[.slice s.p s.n s.c, o.v] W (Ret fun v w' => End W v w') := by
  apply of_millpondlaw20_ScriptPuts
  unfold sh_millpondlaw20_ScriptPuts
  refine Al.i (Sep.start W) (fun p1 w1 h1 => ?_)
  have h1 : Sep (World.env W) [blk p1 o.vs, old W.heap] w1 := h1
  refine use (l_works h1) ?_
  rintro _ w2 ⟨rfl, _, h2⟩
  refine ⟨_, rfl, bifF ⟨fun w' => Sep (World.env W) [blk p1 o.vs, old W.heap] w', ?_, ?_⟩⟩
  · exact bGt (fun _ => bLe (fun _ => End.of (i := 1) h2 rfl) (fun _ => h2)) (fun _ => h2)
  rintro _ w3 h3
  refine use (c_Put (hO.grow (grow_old (i := 1) rfl h3 rfl)) h3) ?_
  rintro _ w4 ⟨he, _⟩
  have tail : ∀ {x : Sl} {t : Bytes} {e : Int} {w5 : World}, Byt w5 x t → Sep (World.env W) [blk p1 o.vs, old W.heap] w5 → Dr (fun w17 => bif true then (∃ x18 : ByteArray, CvV P 27 9 (.slice x.p x.n x.c) w17 (.string x18) ∧ bif (x18.toList == (mk t).toList) then (bif (e == e) then (∃ x19 : Int, w17.cell? (Addr.add ⟨p1, 0, none⟩ 0) = some (.int .i64 x19) ∧ ∃ x20 : Int, w17.cell? (Addr.add ⟨p1, 0, none⟩ 1) = some
    (.int .i64 x20) ∧ ∃ x21 : Int, w17.cell? (Addr.add ⟨p1, 0, none⟩ 2) = some (.int .i64 x21) ∧ ∃ x22 : Int, w17.cell? (Addr.add ⟨p1, 0, none⟩ 3) = some (.int .i64 x22) ∧ ∃ x23 : Int, w17.cell? (Addr.add ⟨p1, 0, none⟩ 4) = some (.int
    .i64 x23) ∧ ∃ x24 : Int, w17.cell? (Addr.add ⟨p1, 0, none⟩ 0) = some (.int .i64 x24) ∧ ∃ x25 : Int, w17.cell? (Addr.add ⟨p1, 0, none⟩ 1) = some (.int .i64 x25) ∧ ∃ x26 : Int, w17.cell? (Addr.add ⟨p1, 0, none⟩ 2) = some (.int .i64 x26)
    ∧ ∃ x27 : Int, w17.cell? (Addr.add ⟨p1, 0, none⟩ 3) = some (.int .i64 x27) ∧ ∃ x28 : Int, w17.cell? (Addr.add ⟨p1, 0, none⟩ 4) = some (.int .i64 x28) ∧ Calls P fn_script_Size #[(.agg #[(.int
    .i64 x19), (.int .i64 x20), (.int .i64 x21), (.int .i64 x22), (.int .i64 x23)])] w17 fun e30 w29 => ∃ x31 : Int, e30 = .returned (.int .i64 x31) ∧ ∃ x32 : Int, w29.cell? (Addr.add ⟨p1, 0, none⟩
    0) = some (.int .i64 x32) ∧ ∃ x33 : Int, w29.cell? (Addr.add ⟨p1, 0, none⟩ 1) = some (.int .i64 x33) ∧ ∃ x34 : Int, w29.cell? (Addr.add ⟨p1, 0, none⟩ 2) = some (.int .i64 x34) ∧ ∃ x35 : Int, w29.cell? (Addr.add ⟨p1, 0, none⟩
    3) = some (.int .i64 x35) ∧ ∃ x36 : Int, w29.cell? (Addr.add ⟨p1, 0, none⟩ 4) = some (.int .i64 x36) ∧ ((.agg #[(.int .i64 x32), (.int .i64 x33), (.int .i64 x34), (.int .i64 x35), (.int .i64
    x36)]) : Value) = (.agg #[(.int .i64 x24), (.int .i64 x25), (.int .i64 x26), (.int .i64 x27), (.int .i64 x28)]) ∧ Calls P fn_millpondref20_One #[(.agg #[(.int .i64 x24), (.int
    .i64 x25), (.int .i64 x26), (.int .i64 x27), (.int .i64 x28)])] w29 fun e38 w37 => ∃ x39 : ByteArray, e38 = .returned (.string x39) ∧ End W (.bool (x31 == ((x39.size : Nat) : Int)))
    w37) else (End W (.bool false) w17)) else (End W (.bool false) w17)) else (End W (.bool false) w17)) w5 := by
    intro x t e w5 hB h5
    refine Dr.i (Sep.start w5) (fun w6 h6' => ?_)
    have g56 := gold h6'
    have h6 := h5.grow g56
    refine bT rfl ⟨_, cvI (hB.grow g56), bS (fun _ => bEq' rfl ?_) (fun hne => absurd rfl hne)⟩
    refine ⟨_, h6.cell 0, _, h6.cell 1, _, h6.cell 2, _, h6.cell 3, _, h6.cell 4, _, h6.cell 0, _, h6.cell 1, _, h6.cell 2, _, h6.cell 3, _, h6.cell 4, ?_⟩
    refine use (c_Size o h6) ?_
    rintro _ w7 ⟨rfl, _, h7⟩
    refine ⟨_, rfl, _, h7.cell 0, _, h7.cell 1, _, h7.cell 2, _, h7.cell 3, _, h7.cell 4, rfl, ?_⟩
    refine use (c_rOne o h7) ?_
    rintro _ w8 ⟨rfl, _, h8⟩
    refine ⟨_, rfl, ?_⟩
    have e1 : ((if Scr.okB o = true then ((Scr.code o).length : Int) else 0) == (((mk (Scr.codeB o)).size : Nat) : Int)) = true := by
      rw [beq_iff_eq, mk_size]
      unfold Scr.codeB
      split <;> rfl
    rw [e1]
    exact End.of (i := 1) h8 rfl
  rcases he with ⟨hok, x, rfl, hn, h4⟩ | ⟨hno, rfl, h4⟩
  · refine ⟨x, 0, rfl, ?_⟩
    have hB := Byt.row (q := 0) h4 rfl hn
    refine use (c_rPut (hO.grow (grow_old (i := 2) rfl h4 rfl)) (Sep.start w4)) ?_
    rintro _ w5 ⟨he2, g45, _⟩
    rcases he2 with ⟨_, rfl⟩ | ⟨hno, _⟩
    · exact ⟨_, _, rfl, tail (hB.grow g45) (h4.grow g45).tail⟩
    · exact absurd hok hno
  · refine ⟨⟨none, 0, 0⟩, 1, rfl, ?_⟩
    refine use (c_rPut (hO.grow (grow_old (i := 1) rfl h4 rfl)) h4) ?_
    rintro _ w5 ⟨he2, g45, h5⟩
    rcases he2 with ⟨hok, _⟩ | ⟨_, rfl⟩
    · exact absurd hok hno
    · exact ⟨_, _, rfl, tail (x := ⟨none, 0, 0⟩) Byt.nil h5⟩

/-- What two readings came to is the same. -/
theorem GetEnd.same {s : Bytes} {v : Value} (h : GetEnd s v w) : ∃ (l : List Scr.Op) (r : Bytes) (x : Sl) (e n : Int), Scr.Got s l r ∧ v = .tuple #[.slice x.p x.n x.c, .int .i64 e, .int .i64 n] ∧ Ops w x l ∧ e = (if r = [] then 0 else 20) ∧ n = (if r = [] then 0 else (s.length : Int) - r.length) := by
  obtain ⟨l, r, x, e, n, G, rfl, hO, hr⟩ := h
  refine ⟨l, r, x, e, n, G, rfl, hO, ?_⟩
  rcases hr with ⟨h1, h2, h3⟩ | ⟨h1, h2, h3⟩
  · rw [if_pos h1, if_pos h1]; exact ⟨h2, h3⟩
  · rw [if_neg h1, if_neg h1]; exact ⟨h2, h3⟩

theorem law_Gets (s : ByteArray) : Calls P fn_millpondlaw20_ScriptGets #[.string s] W (Ret fun v w' => End W v w') := by
  apply of_millpondlaw20_ScriptGets
  unfold sh_millpondlaw20_ScriptGets
  refine use (l_works (Sep.start W)) ?_
  rintro _ w1 ⟨rfl, _, h1⟩
  refine ⟨_, rfl, bifF ?_⟩
  rw [← bs_len]
  refine bGt (fun _ => End.of (i := 0) h1 rfl) (fun hle => ?_)
  refine bytesOf h1 bs27 str9 (fun x5 w2 hc5 hB5 _ h2 => ?_)
  refine use (c_Get hB5 hc5 (by show (bs s).length < _; have := bs_len s; omega) h2) ?_
  rintro _ w3 ⟨hg, g23, h3⟩
  obtain ⟨l, r, x8, e, n, G, rfl, hO8, rfl, rfl⟩ := hg.same
  refine ⟨x8, _, _, rfl, ?_⟩
  refine bytesOf h3 bs27 str9 (fun x12 w4 hc12 hB12 g34 h4 => ?_)
  refine use (c_rGet hB12 hc12 (by show (bs s).length < _; have := bs_len s; omega) h4) ?_
  rintro _ w5 ⟨hg, g45, h5⟩
  obtain ⟨l', r', x15, e', n', G', rfl, hO15, rfl, rfl⟩ := hg.same
  obtain ⟨rfl, rfl⟩ := G.uniq G'
  refine ⟨x15, _, _, rfl, ?_⟩
  have hn8 := hO8.n
  have hn15 := hO15.n
  refine ⟨fun w' => w' = w5, bNe (by rw [hn8, hn15]) (bNe rfl (bNe rfl rfl)), ?_⟩
  rintro _ w6 rfl
  have hO8 := hO8.grow (g34.trans g45)
  refine ⟨fun i w' => ∃ k : Nat, i = k ∧ k ≤ l.length ∧ Grow w6 w' ∧ Sep (World.env W) [old W.heap] w', fun i _ => (l.length - i).toNat, ⟨0, rfl, Nat.zero_le _, Grow.refl _, h5⟩, ?_⟩
  rintro _ i w7 ⟨k, rfl, hk, g67, h7⟩
  refine bLt (fun hlt => ?_) (fun _ => End.of (i := 0) h7 rfl)
  have hfew := G.few
  obtain ⟨o, ho⟩ : ∃ o, l[k]? = some o := ⟨_, List.getElem?_eq_getElem (by omega)⟩
  refine Dr.i (Sep.start w7) (fun w8 h8' => ?_)
  have g78 := gold h8'
  refine (hO8.grow (g67.trans g78)).at_ k rfl ho (fun a ha => ?_)
  have ha := ha w8 (Grow.refl _)
  refine ⟨_, ha 0 _ rfl, _, ha 1 _ rfl, _, ha 2 _ rfl, _, ha 3 _ rfl, _, ha 4 _ rfl, ?_⟩
  refine (hO15.grow (g67.trans g78)).at_ k rfl ho (fun a' ha' => ?_)
  have ha' := ha' w8 (Grow.refl _)
  refine ⟨_, ha' 0 _ rfl, _, ha' 1 _ rfl, _, ha' 2 _ rfl, _, ha' 3 _ rfl, _, ha' 4 _ rfl, ?_⟩
  obtain ⟨q, hq, hqi⟩ := op_neq o o
  refine ⟨q, hq, bF (hqi.2 rfl) ⟨⟨k + 1, wrapS (by omega), by omega, g67.trans g78, h7.grow g78⟩, ?_⟩⟩
  rw [wrapS (by omega)]; dsimp only; omega

theorem PutEnd.fine {l : List Scr.Op} {v : Value} {w' : World} (h : PutEnd E L l v w') (hok : PutOk l) : ∃ x : Sl, v = .tuple #[.slice x.p x.n x.c, .int .i64 0] ∧ Byt w' x (Scr.text l) ∧ x.n ≤ x.c ∧ Sep E L w' := by
  rcases h with ⟨_, x, rfl, hn, h⟩ | ⟨hno, _⟩
  · exact ⟨x, rfl, Byt.row (q := 0) h rfl hn, rowA.cap h, h.tail⟩
  · exact absurd hok hno
theorem text_short {l : List Scr.Op} (hok : PutOk l) : (Scr.text l).length < 1000000 := by
  have := (Scr.text_len hok.1).2
  have := hok.2
  omega

theorem law_Back {s : Sl} {l : List Scr.Op} (t : ByteArray) (hO : Ops W s l) : Calls P fn_millpondlaw20_ScriptBack #[.slice s.p s.n s.c, .string t] W (Ret fun v w' => End W v w') := by
  apply of_millpondlaw20_ScriptBack
  unfold sh_millpondlaw20_ScriptBack
  have hsn := hO.n
  refine use (l_works (Sep.start W)) ?_
  rintro _ w1 ⟨rfl, _, h1⟩
  refine ⟨_, rfl, bifF ?_⟩
  rw [← bs_len]
  refine ⟨fun w' => l.length ≤ 200 ∧ (bs t).length ≤ 2000 ∧ Sep (World.env W) [old W.heap] w', ?_, ?_⟩
  · refine bGt (fun _ => End.of (i := 0) h1 rfl) (fun _ => ?_)
    exact bGt (fun _ => End.of (i := 0) h1 rfl) (fun _ => ⟨by omega, by omega, h1⟩)
  rintro _ w2 ⟨hl2, ht, h2⟩
  refine use (c_Put (hO.grow (gold h2)) h2) ?_
  rintro _ w3 ⟨he, g23⟩
  have rest : ∀ (_ : Nat → Value) (w12 : World), Sep (World.env W) [old W.heap] w12 → ∃ x42 : Sl, ∃ w41 : World, Sem.run P (convert 9 27 (.string t)) w12 = .ok (.slice x42.p x42.n x42.c) w41 ∧ Calls P fn_script_Get #[(.slice x42.p x42.n x42.c)] w41 fun e44 w43 => ∃ x45 : Sl, ∃ x46 : Int, ∃
    x47 : Int, e44 = .returned (.tuple #[(.slice x45.p x45.n x45.c), (.int .i64 x46), (.int .i64 x47)]) ∧ Calls P fn_script_Put #[(.slice x45.p x45.n x45.c)] w43 fun e49 w48 => ∃
    x50 : Sl, ∃ x51 : Int, e49 = .returned (.tuple #[(.slice x50.p x50.n x50.c), (.int .i64 x51)]) ∧ ∃ J52 : Int → World → Prop, (bif (x46 == 0) then (J52 (((bs t).length : Nat) : Int)
    w48) else (J52 x47 w48)) ∧ (∀ _u54 : Nat → Value, ∀ at55 : Int, ∀ w53 : World, J52 at55 w53 → Dr (fun w56 => bif true then (bif (x51 == 0) then (bif (decide (at55 ≥ 0)) then (bif
    (decide (at55 ≤ (((bs t).length : Nat) : Int))) then (∃ x57 : ByteArray, CvV P 27 9 (.slice x50.p x50.n x50.c) w56 (.string x57) ∧ ((0 : Int) ≤ at55 ∧ at55 ≤ (((bs t).length : Nat) : Int)) ∧
    End W (.bool (x57.toList == (t.extract 0 at55.toNat).toList)) w56) else (End W (.bool false) w56)) else (End W (.bool false) w56)) else (End W (.bool false) w56)) else (End W (.bool false) w56))
    w53) := by
    intro _ w12 h12
    refine bytesOf h12 bs27 str9 (fun x5 w13 hc5 hB5 _ h13 => ?_)
    refine use (c_Get hB5 hc5 (by show (bs t).length < _; omega) h13) ?_
    rintro _ w14 ⟨hg, _, h14⟩
    obtain ⟨m, r, x45, e, n, G, rfl, hO45, rfl, rfl⟩ := hg.same
    refine ⟨x45, _, _, rfl, ?_⟩
    refine use (c_Put hO45 h14) ?_
    rintro _ w15 ⟨he2, _⟩
    obtain ⟨x50, rfl, hB50, hc50, h15⟩ := he2.fine ⟨G.ok, G.few⟩
    have G0 : bs t = Scr.text m ++ r := G.eq
    have hlen := congrArg List.length G0
    rw [List.length_append] at hlen
    have hfin : ∀ (w16 : World), w16 = w15 → ∀ at55 : Int, at55 = ((Scr.text m).length : Int) → Dr (fun w56 => bif true then (bif ((0 : Int) == 0) then (bif (decide (at55 ≥ 0)) then (bif
      (decide (at55 ≤ (((bs t).length : Nat) : Int))) then (∃ x57 : ByteArray, CvV P 27 9 (.slice x50.p x50.n x50.c) w56 (.string x57) ∧ ((0 : Int) ≤ at55 ∧ at55 ≤ (((bs t).length : Nat) : Int)) ∧
      End W (.bool (x57.toList == (t.extract 0 at55.toNat).toList)) w56) else (End W (.bool false) w56)) else (End W (.bool false) w56)) else (End W (.bool false) w56)) else (End W (.bool false) w56)) w16 := by
      intro w16 hw at55 ha
      subst hw ha
      refine Dr.i (Sep.start w16) (fun w17 h17' => ?_)
      have g17 := gold h17'
      have h17 := h15.grow g17
      refine bT rfl (bEq' rfl (bGe (fun _ => ?_) (fun hh => absurd hh (by omega))))
      refine bLe (fun _ => ?_) (fun hh => absurd hh (by omega))
      refine ⟨_, cvI (hB50.grow g17), ⟨by omega, by omega⟩, ?_⟩
      have e1 : ((mk (Scr.text m)).toList == (t.extract 0 ((Scr.text m).length : Int).toNat).toList) = true := by
        rw [beq_bs]
        refine decide_eq_true ?_
        rw [bs_sub, Int.toNat_natCast, G0, List.drop_zero, Nat.sub_zero, List.take_left]
      rw [e1]
      exact End.of (i := 0) h17 rfl
    refine ⟨x50, 0, rfl, fun at_ w' => w' = w15 ∧ at_ = ((Scr.text m).length : Int), ?_, ?_⟩
    · by_cases hr : r = []
      · rw [if_pos hr]
        subst hr
        refine bEq' rfl ⟨rfl, ?_⟩
        rw [List.length_nil] at hlen; omega
      · rw [if_neg hr, if_neg hr]
        refine bEq (fun h0 => by cases h0) (fun _ => ⟨rfl, ?_⟩)
        show ((bs t).length : Int) - _ = _
        omega
    · rintro _ at_ w16 ⟨hw, ha⟩
      exact hfin w16 hw at_ ha
  rcases he with ⟨hok, x9, rfl, hn, h3⟩ | ⟨hno, rfl, h3⟩
  · refine ⟨x9, 0, rfl, fun w' => Sep (World.env W) [old W.heap] w', ?_, rest⟩
    refine bEq' rfl ?_
    refine use (c_Get (Byt.row (q := 0) h3 rfl hn) (rowA.cap h3) (text_short hok) h3) ?_
    rintro _ w4 ⟨hg, _, h4⟩
    obtain ⟨x16, rfl, hO16⟩ := hg.full rfl hok
    have hn16 := hO16.n
    refine ⟨x16, 0, 0, rfl, fun w' => w' = w4, bNe rfl (bNe (by rw [hn16, hsn]) rfl), ?_⟩
    rintro _ w5 rfl
    refine ⟨fun i w' => ∃ k : Nat, i = k ∧ k ≤ l.length ∧ Grow w5 w' ∧ Sep (World.env W) [old W.heap] w', fun i _ => (l.length - i).toNat, ⟨0, rfl, Nat.zero_le _, Grow.refl _, h4.tail⟩, ?_⟩
    rintro _ i w7 ⟨k, rfl, hk, g57, h7⟩
    refine bLt (fun hlt => ?_) (fun _ => h7)
    obtain ⟨o, ho⟩ : ∃ o, l[k]? = some o := ⟨_, List.getElem?_eq_getElem (by omega)⟩
    refine Dr.i (Sep.start w7) (fun w8 h8' => ?_)
    have g78 := gold h8'
    refine (hO16.grow (g57.trans g78)).at_ k rfl ho (fun a ha => ?_)
    have ha := ha w8 (Grow.refl _)
    refine ⟨_, ha 0 _ rfl, _, ha 1 _ rfl, _, ha 2 _ rfl, _, ha 3 _ rfl, _, ha 4 _ rfl, ?_⟩
    refine (hO.grow ((gold h7).trans g78)).at_ k rfl ho (fun a' ha' => ?_)
    have ha' := ha' w8 (Grow.refl _)
    refine ⟨_, ha' 0 _ rfl, _, ha' 1 _ rfl, _, ha' 2 _ rfl, _, ha' 3 _ rfl, _, ha' 4 _ rfl, ?_⟩
    obtain ⟨q, hq, hqi⟩ := op_neq o o
    refine ⟨q, hq, bF (hqi.2 rfl) ⟨⟨k + 1, wrapS (by omega), by omega, g57.trans g78, h7.grow g78⟩, ?_⟩⟩
    rw [wrapS (by omega)]; dsimp only; omega
  · refine ⟨⟨none, 0, 0⟩, 1, rfl, fun w' => Sep (World.env W) [old W.heap] w', ?_, rest⟩
    exact bEq (fun h0 => by cases h0) (fun _ => h3)

theorem law_Sizes {s : Sl} {l : List Scr.Op} (k : Int) (hO : Ops W s l) : Calls P fn_millpondlaw20_ScriptSizes #[.slice s.p s.n s.c, .int .i64 k] W (Ret fun v w' => End W v w') := by
  apply of_millpondlaw20_ScriptSizes
  unfold sh_millpondlaw20_ScriptSizes
  have hsn := hO.n
  refine use (l_works (Sep.start W)) ?_
  rintro _ w1 ⟨rfl, _, h1⟩
  refine ⟨_, rfl, bifF ?_⟩
  refine ⟨fun w' => l.length ≤ 200 ∧ 0 ≤ k ∧ k ≤ l.length ∧ Sep (World.env W) [old W.heap] w', ?_, ?_⟩
  · refine bGt (fun _ => End.of (i := 0) h1 rfl) (fun _ => ?_)
    refine bLt (fun _ => End.of (i := 0) h1 rfl) (fun _ => ?_)
    exact bGt (fun _ => End.of (i := 0) h1 rfl) (fun _ => ⟨by omega, by omega, by omega, h1⟩)
  rintro _ w2 ⟨hl2, hk0, hkl, h2⟩
  obtain ⟨k, rfl⟩ : ∃ q : Nat, k = q := ⟨k.toNat, by omega⟩
  refine use (c_Put (hO.grow (gold h2)) h2) ?_
  rintro _ w3 ⟨he, g23⟩
  rcases he with ⟨hok, x9, rfl, hn, h3⟩ | ⟨hno, rfl, h3⟩
  rotate_left
  · refine ⟨⟨none, 0, 0⟩, 1, rfl, ?_⟩
    exact bNeT (by decide) (bT rfl (End.of (i := 0) h3 rfl))
  have hB := Byt.row (q := 0) h3 rfl hn
  have hc9 := rowA.cap h3
  have hlen := Scr.text_len hok.1
  have hok' : ∀ j, PutOk (l.take j) := fun j => ⟨fun o ho => hok.1 o (List.mem_of_mem_take ho), by have := hok.2; rw [List.length_take]; omega⟩
  have htk : ∀ j, (Scr.text (l.take j)).length ≤ (Scr.text l).length := fun j => by have := Scr.text_take_drop l j; omega
  have step : ∀ {j : Nat} {o : Scr.Op} {w : World}, l[j]? = some o → Sep (World.env W) [rowA x9 1 (u8s (Scr.text l)), old W.heap] w → Calls P fn_script_Size #[o.v] w (Ret fun v w' => v = .int .i64 ((Scr.code o).length : Int) ∧ (Scr.text (l.take (j + 1))).length = (Scr.text (l.take j)).length + (Scr.code o).length ∧ Sep (World.env W) [rowA x9 1 (u8s (Scr.text l)), old W.heap] w') := by
    intro j o w ho h
    have hoo := hok.1 o (List.mem_of_getElem? ho)
    refine use (c_Size o h) ?_
    rintro _ w' ⟨rfl, _, h'⟩
    refine ⟨_, rfl, ?_, ?_, h'⟩
    · rw [(Scr.okB_iff o).2 hoo, if_pos rfl]
    · rw [take_succ ho, Scr.text_append, Scr.text_one, List.length_append]
  refine ⟨x9, 0, rfl, ?_⟩
  refine ⟨fun n i w' => ∃ j : Nat, i = j ∧ j ≤ k ∧ n = ((Scr.text (l.take j)).length : Int) ∧ Sep (World.env W) [rowA x9 1 (u8s (Scr.text l)), old W.heap] w', fun _ i _ => (k - i).toNat, ⟨0, rfl, Nat.zero_le _, rfl, h3⟩, ?_⟩
  rintro _ n i w4 ⟨j, rfl, hj, rfl, h4⟩
  refine bLt (fun hlt => ?_) (fun hge => ?_)
  · obtain ⟨o, ho⟩ : ∃ o, l[j]? = some o := ⟨_, List.getElem?_eq_getElem (by omega)⟩
    refine (hO.grow (grow_old (i := 1) rfl h4 rfl)).at_ j rfl ho (fun a ha => ?_)
    have ha := ha w4 (Grow.refl _)
    refine ⟨_, ha 0 _ rfl, _, ha 1 _ rfl, _, ha 2 _ rfl, _, ha 3 _ rfl, _, ha 4 _ rfl, ?_⟩
    refine use (step ho h4) ?_
    rintro _ w5 ⟨rfl, hst, h5⟩
    have h1 := htk (j + 1)
    refine ⟨_, rfl, ⟨j + 1, wrapS (by omega), by omega, ?_, h5⟩, by rw [wrapS (by omega)]; dsimp only; omega⟩
    rw [w64 (by omega) (by omega)]; omega
  have ej : j = k := by omega
  subst ej
  have hjl := htk j
  have hbn : x9.n = (Scr.text l).length := hn
  refine ⟨⟨by omega, by omega⟩, ?_⟩
  have hB4 := (Byt.row (q := 0) h4 rfl hn).take (k := (Scr.text (l.take j)).length) hjl
  rw [Int.toNat_natCast]
  have hc4 : (Scr.text (l.take j)).length - 0 ≤ x9.c - 0 := by omega
  have hl4 : ((Scr.text l).take (Scr.text (l.take j)).length).length < 1000000 := by rw [List.length_take]; have := text_short hok; omega
  have hget := c_Get hB4 hc4 hl4 h4
  refine use hget ?_
  rintro _ w5 ⟨hg, _, h5⟩
  have ht : (Scr.text l).take (Scr.text (l.take j)).length = Scr.text (l.take j) := by
    have : Scr.text l = Scr.text (l.take j) ++ Scr.text (l.drop j) := by rw [← Scr.text_append, List.take_append_drop]
    rw [this, List.take_left]
  obtain ⟨x28, rfl, hO28⟩ := hg.full ht (hok' j)
  have hn28 := hO28.n
  rw [List.length_take] at hn28
  refine ⟨x28, 0, 0, rfl, ?_⟩
  refine ⟨fun n i w' => ∃ q : Nat, i = q ∧ q ≤ l.length ∧ n = ((Scr.text (l.take q)).length : Int) ∧ Sep (World.env W) [rowA x9 1 (u8s (Scr.text l)), old W.heap] w', fun _ i _ => (l.length - i).toNat, ⟨j, rfl, by omega, rfl, h5⟩, ?_⟩
  rintro _ n i w6 ⟨q, rfl, hq, rfl, h6⟩
  refine bLt (fun hlt => ?_) (fun hge => ?_)
  · obtain ⟨o, ho⟩ : ∃ o, l[q]? = some o := ⟨_, List.getElem?_eq_getElem (by omega)⟩
    refine (hO.grow (grow_old (i := 1) rfl h6 rfl)).at_ q rfl ho (fun a ha => ?_)
    have ha := ha w6 (Grow.refl _)
    refine ⟨_, ha 0 _ rfl, _, ha 1 _ rfl, _, ha 2 _ rfl, _, ha 3 _ rfl, _, ha 4 _ rfl, ?_⟩
    refine use (step ho h6) ?_
    rintro _ w7 ⟨rfl, hst, h7⟩
    have h1 := htk (q + 1)
    refine ⟨_, rfl, ⟨q + 1, wrapS (by omega), by omega, ?_, h7⟩, by rw [wrapS (by omega)]; dsimp only; omega⟩
    rw [w64 (by omega) (by omega)]; omega
  have eq : q = l.length := by omega
  subst eq
  refine bT rfl (bEq' rfl (bEq' (by omega) ?_))
  rw [List.take_length]
  have e1 : ((((Scr.text l).length : Nat) : Int) == ((x9.n : Nat) : Int)) = true := by rw [beq_iff_eq]; omega
  rw [e1]
  exact End.of (i := 1) h6 rfl

theorem law_Bad (s t : ByteArray) : Calls P fn_millpondlaw20_ScriptBad #[.string s, .string t] W (Ret fun v w' => End W v w') := by
  apply of_millpondlaw20_ScriptBad
  unfold sh_millpondlaw20_ScriptBad
  refine use (l_works (Sep.start W)) ?_
  rintro _ w1 ⟨rfl, _, h1⟩
  refine ⟨_, rfl, bifF ?_⟩
  have hs := bs_len s
  have ht := bs_len t
  refine ⟨fun w' => s.size ≤ 1000 ∧ t.size ≤ 1000 ∧ Sep (World.env W) [old W.heap] w', ?_, ?_⟩
  · refine bGt (fun _ => End.of (i := 0) h1 rfl) (fun _ => ?_)
    exact bGt (fun _ => End.of (i := 0) h1 rfl) (fun _ => ⟨by omega, by omega, h1⟩)
  rintro _ w2 ⟨hs1, ht1, h2⟩
  refine bytesOf h2 bs27 str9 (fun x8 w3 hc8 hB8 _ h3 => ?_)
  refine use (c_Get hB8 hc8 (by show (bs s).length < _; omega) h3) ?_
  rintro _ w4 ⟨hg, _, h4⟩
  obtain ⟨l, r, x11, e, n, G, rfl, hO11, rfl, rfl⟩ := hg.same
  have G0 : bs s = Scr.text l ++ r := G.eq
  have hlen := congrArg List.length G0
  rw [List.length_append] at hlen
  have hn11 := hO11.n
  have hls := (Scr.text_len G.ok).1
  refine ⟨x11, _, _, rfl, ?_⟩
  by_cases hr : r = []
  · rw [if_pos hr, if_pos hr]
    subst hr
    refine bEq' rfl ⟨by omega, ?_⟩
    refine bytesOf h4 bs27 str9 (fun x15 w5 hc15 hB15 _ h5 => ?_)
    have hst : (bs (s ++ t)).length = s.size + t.size := by rw [bs_append, List.length_append]; omega
    refine use (c_Get hB15 hc15 (by show (bs (s ++ t)).length < _; omega) h5) ?_
    rintro _ w6 ⟨hg, _, h6⟩
    obtain ⟨m, r2, x18, e, n, G2, rfl, hO18, rfl, rfl⟩ := hg.same
    refine ⟨x18, _, _, rfl, ?_⟩
    refine bytesOf h6 bs27 str9 (fun x22 w7 hc22 hB22 _ h7 => ?_)
    refine use (c_Get hB22 hc22 (by show (bs t).length < _; omega) h7) ?_
    rintro _ w8 ⟨hg, _, h8⟩
    obtain ⟨n, r3, x25, e, n', G3, rfl, hO25, rfl, rfl⟩ := hg.same
    have G30 : bs t = Scr.text n ++ r3 := G3.eq
    have hlen3 := congrArg List.length G30
    rw [List.length_append] at hlen3
    have hlt := (Scr.text_len G3.ok).1
    have G4 := G.append G3 (by omega)
    have e4 : (s ++ t).data.toList = s.data.toList ++ t.data.toList := bs_append s t
    rw [e4] at G2
    obtain ⟨rfl, rfl⟩ := G2.uniq G4
    have hn18 := hO18.n
    have hn25 := hO25.n
    rw [List.length_append] at hn18
    refine ⟨x25, _, _, rfl, ?_⟩
    refine ⟨fun to w' => to = (if r2 = [] then 0 else ((bs t).length : Int) - r2.length) ∧ w' = w8, ?_, ?_⟩
    · by_cases hr2 : r2 = []
      · rw [if_pos hr2, if_pos hr2, if_pos hr2]
        exact bNe rfl ⟨rfl, rfl⟩
      · rw [if_neg hr2, if_neg hr2, if_neg hr2]
        have hrl : r2.length ≤ (bs t).length := by omega
        have est : (s ++ t).data.toList.length = s.size + t.size := hst
        refine bNeT (by decide) ⟨?_, rfl⟩
        rw [est, w64 (by omega) (by omega)]
        omega
    · rintro _ to w9 ⟨rfl, rfl⟩
      refine bT rfl (bEq' (by rw [w64 (by omega) (by omega)]; omega) (bEq' rfl ?_))
      have e5 : ((if r2 = [] then (0 : Int) else ((bs t).length : Int) - (r2.length : Int)) == (if r2 = [] then (0 : Int) else ((t.data.toList.length : Nat) : Int) - (r2.length : Int))) = true := by rw [beq_iff_eq]
      rw [e5]
      exact End.of (i := 0) h8 rfl
  · rw [if_neg hr, if_neg hr]
    have hsl : s.data.toList.length = s.size := hs
    refine bEq (fun h0 => by cases h0) (fun _ => ?_)
    rw [hsl]
    refine ⟨fun w' => Sep (World.env W) [old W.heap] w', bLt (fun hh => absurd hh (by omega)) (fun _ => bGt (fun hh => absurd hh (by omega)) (fun _ => h4)), ?_⟩
    rintro _ w5 h5
    refine ⟨⟨by omega, by omega⟩, ?_⟩
    have e1 : ((s.size : Int) - (r.length : Int)).toNat = (Scr.text l).length := by omega
    rw [e1]
    refine bytesOf h5 bs27 str9 (fun x36 w6 hc36 hB36 _ h6 => ?_)
    have e2 : (s.extract 0 (Scr.text l).length).data.toList = Scr.text l := by
      have := bs_sub s 0 (Scr.text l).length
      rw [G0, List.drop_zero, Nat.sub_zero, List.take_left] at this
      exact this
    refine use (c_Get hB36 hc36 (by rw [e2]; omega) h6) ?_
    rintro _ w7 ⟨hg, _, h7⟩
    obtain ⟨x39, rfl, hO39⟩ := hg.full e2 ⟨G.ok, G.few⟩
    have hn39 := hO39.n
    refine ⟨x39, 0, 0, rfl, bT rfl (bEq' rfl (bEq' rfl ?_))⟩
    have e3 : (((x39.n : Nat) : Int) == ((x11.n : Nat) : Int)) = true := by rw [beq_iff_eq]; omega
    rw [e3]
    exact End.of (i := 0) h7 rfl
end Go.Mp
