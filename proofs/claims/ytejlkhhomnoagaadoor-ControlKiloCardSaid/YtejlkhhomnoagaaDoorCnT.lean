/- The document's answers for control, further. -/
import Derived.Test.YtejlkhhomnoagaaDoorCnR
set_option maxRecDepth 100000
namespace Go.Mp
open Go Go.Vc Go.Sp Go.Proofs Go.Ct

variable {E : Env} {L : List Asn} {w : World}

def files : List Bytes := [fMin, fLow, fMax, fSwap, fOom]
theorem fileN_at : ∀ j : Nat, ∀ x, files[j]? = some x → fileN x = j
  | 0, x, h => by obtain rfl : fMin = x := Option.some.inj h; rfl
  | 1, x, h => by obtain rfl : fLow = x := Option.some.inj h; rfl
  | 2, x, h => by obtain rfl : fMax = x := Option.some.inj h; rfl
  | 3, x, h => by obtain rfl : fSwap = x := Option.some.inj h; rfl
  | 4, x, h => by obtain rfl : fOom = x := Option.some.inj h; rfl
  | j + 5, x, h => by simp [files] at h
theorem fileN_not {s : Bytes} (h : ∀ x ∈ files, x ≠ s) : fileN s = -1 := by
  unfold fileN
  rw [if_neg (fun e => h fMin (by simp [files]) e.symm), if_neg (fun e => h fLow (by simp [files]) e.symm), if_neg (fun e => h fMax (by simp [files]) e.symm), if_neg (fun e => h fSwap (by simp [files]) e.symm), if_neg (fun e => h fOom (by simp [files]) e.symm)]
theorem fileN_ge (s : Bytes) : -1 ≤ fileN s := by unfold fileN; repeat' split
                                                  all_goals omega

theorem lim_nonneg {s : Bytes} {n : Int} (h : lim s = some n) : 0 ≤ n := by
  unfold lim at h
  split at h
  · have := Option.some.inj h; omega
  · split at h
    · cases h
    · next q _ =>
      generalize (if Lib.hasSuffix s [75] then q * 1024 else q) = z at h
      split at h
      · have := Option.some.inj h; omega
      · cases h

theorem r_Read (name text : ByteArray) (hs : (bs text).length < 4611686018427387904) (h : Sep E L w) : Calls P fn_millpondref11_Read #[.string name, .string text] w
    (Ret fun v w' => v = .tuple #[.int .i64 (Ct.read (bs name) (bs text)).1, .int .i64 (Ct.read (bs name) (bs text)).2.1, .int .i64 (Ct.read (bs name) (bs text)).2.2] ∧ Sep E L w') := by
  apply of_millpondref11_Read
  unfold sh_millpondref11_Read
  refine Al.i h (fun q w1 h1 => ?_)
  generalize hC : (#[(Value.string (ByteArray.mk #[109, 101, 109, 111, 114, 121, 46, 109, 105, 110])), (.string (ByteArray.mk #[109, 101, 109, 111, 114, 121, 46, 108, 111, 119])), (.string
    (ByteArray.mk #[109, 101, 109, 111, 114, 121, 46, 109, 97, 120])), (.string (ByteArray.mk #[115, 119, 97, 112, 46, 109, 97, 120])), (.string (ByteArray.mk #[109, 101, 109, 111, 114, 121, 46, 111, 111, 109, 46, 103, 114, 111, 117, 112]))] : Array Value).toList = C at h1
  have hC' : C = files.map strV := by rw [← hC]; rfl
  subst hC'
  clear hC
  refine ⟨fun a i w' => ∃ k : Nat, i = k ∧ k ≤ 5 ∧ (∀ (j : Nat) x, j < k → files[j]? = some x → x = bs name → a = j) ∧ ((∀ (j : Nat) x, j < k → files[j]? = some x → x ≠ bs name) → a = -1) ∧ Sep E (blk q (files.map strV) :: L) w',
    fun _ i _ => (5 - i).toNat, ⟨0, rfl, by omega, fun j x hj => by omega, fun _ => rfl, h1⟩, ?_⟩
  rintro _ a i w2 ⟨k, rfl, hk, hA, hB, h2⟩
  refine bLt (fun hlt => ?_) (fun hge => ?_)
  · obtain ⟨x, hx⟩ : ∃ x, files[k]? = some x := ⟨_, List.getElem?_eq_getElem (show k < files.length by show k < 5; omega)⟩
    rw [wrapS (by omega)]
    refine ⟨⟨q, 0, none⟩, rfl, ⟨by omega, by omega⟩, mk x, ?_, ?_⟩
    · rw [add_mk, h2.cell]
      have e : 0 + ((k : Int).toNat * 1) = k := by omega
      rw [e, List.getElem?_map, hx]; rfl
    · have ek : bs (mk x) = x := bs_mk x
      refine bS (fun heq => ?_) (fun hne => ?_)
      · rw [ek] at heq
        refine ⟨⟨k + 1, rfl, by omega, fun j y hj hy hyn => ?_, fun hh => absurd heq (hh k x (by omega) hx), h2⟩, by dsimp only; omega⟩
        have h1 := fileN_at j y hy
        have h2 := fileN_at k x hx
        rw [hyn, ← heq, h2] at h1
        omega
      · rw [ek] at hne
        refine ⟨⟨k + 1, rfl, by omega, fun j y hj hy hyn => ?_, fun hh => hB (fun j y hj hy => hh j y (by omega) hy), h2⟩, by dsimp only; omega⟩
        by_cases hjk : j = k
        · subst hjk
          rw [hx] at hy
          exact absurd ((Option.some.inj hy).trans hyn) hne
        · exact hA j y (by omega) hy hyn
  · have hk5 : k = 5 := by omega
    subst hk5
    have hat : a = fileN (bs name) := by
      by_cases hm : bs name ∈ files
      · obtain ⟨j, hj⟩ := List.mem_iff_getElem?.1 hm
        have hlt : j < 5 := (List.getElem?_eq_some_iff.1 hj).1
        rw [hA j _ hlt hj rfl, fileN_at j _ hj]
      · rw [hB (fun j x _ hx e => hm (by rw [← e]; exact List.mem_of_getElem? hx)), fileN_not (fun x hx e => hm (by rw [← e]; exact hx))]
    subst hat
    have h2 := h2.tail
    unfold Ct.read
    refine bLt (fun h0 => ⟨by rw [if_pos h0], h2⟩) (fun h0 => ?_)
    rw [if_neg (by omega)]
    refine ⟨fun t w' => bs t = Lib.trimSuffix (bs text) [10] ∧ Sep E L w', ?_, ?_⟩
    · refine ⟨fun b w' => b = Lib.hasSuffix (bs text) [10] ∧ Sep E L w', ?_, ?_⟩
      · rw [← bs_len]
        refine bGt (fun hgt => ?_) (fun hle => ?_)
        · obtain ⟨k, hk⟩ : ∃ k, (bs text).length = k + 1 := ⟨(bs text).length - 1, by omega⟩
          rw [last_wrap hs hk]
          obtain ⟨c, hc⟩ : ∃ c, (bs text)[k]? = some c := ⟨_, List.getElem?_eq_getElem (by omega)⟩
          refine strI k rfl hc ⟨?_, h2⟩
          rw [(suffix_last hk hc 10).1]
          rw [Bool.eq_iff_iff]
          have e9 : (10 : UInt8).toNat = 10 := rfl
          simp only [beq_iff_eq, decide_eq_true_eq]
          exact ⟨fun hh => UInt8.toNat_inj.1 (by omega), fun hh => by rw [hh]; rfl⟩
        · have e : bs text = [] := List.eq_nil_of_length_eq_zero (by omega)
          exact ⟨by rw [e]; rfl, h2⟩
      · rintro _ x w3 ⟨rfl, h3⟩
        rw [← bs_len]
        refine bifI (fun hk => ?_) (fun hk => ?_)
        · have hne : (bs text).length ≠ 0 := fun hh => by
            rw [List.eq_nil_of_length_eq_zero hh] at hk; cases hk
          obtain ⟨k, hk2⟩ : ∃ k, (bs text).length = k + 1 := ⟨(bs text).length - 1, by omega⟩
          rw [last_wrap hs hk2]
          obtain ⟨c, hc⟩ : ∃ c, (bs text)[k]? = some c := ⟨_, List.getElem?_eq_getElem (by omega)⟩
          obtain ⟨e1, e2⟩ := suffix_last hk2 hc 10
          rw [hk] at e1
          refine ⟨⟨by omega, by omega⟩, ?_, h3⟩
          rw [bs_sub, ← e2 (by simpa using e1.symm)]
          simp
        · refine ⟨?_, h3⟩
          unfold Lib.trimSuffix
          rw [hk]; simp
    · rintro _ t w3 ⟨ht, h3⟩
      have hl : (bs t).length < 4611686018427387904 := by
        have := Lib.trimSuffix_le (bs text) [10]
        rw [ht]; omega
      refine use (r_limit t hl h3) ?_
      rintro _ w4 ⟨rfl, h4⟩
      refine ⟨_, rfl, ?_⟩
      rw [ht]
      have e48 : bs (ByteArray.mk #[48]) = [48] := rfl
      have e49 : bs (ByteArray.mk #[49]) = [49] := rfl
      cases hl : lim (Lib.trimSuffix (bs text) [10]) with
      | none =>
        have en : (none : Option Int).getD (-1) = -1 := rfl
        rw [en]
        dsimp only
        refine bEq (fun h4' => ?_) (fun h4' => ?_)
        · refine bSn (fun ha => ?_) (fun ha => ?_)
          · refine bSn (fun hb => ⟨rfl, h4⟩) (fun hb => bLt (fun _ => ⟨rfl, h4⟩) (fun hh => by omega))
          · exact bLt (fun _ => ⟨rfl, h4⟩) (fun hh => by omega)
        · exact bLt (fun _ => ⟨rfl, h4⟩) (fun hh => by omega)
      | some n =>
        have h0n := lim_nonneg hl
        have en : (some n : Option Int).getD (-1) = n := rfl
        rw [en]
        dsimp only
        refine bEq (fun h4' => ?_) (fun h4' => ?_)
        · refine bSn (fun ha => ?_) (fun ha => ?_)
          · rw [ht, e48] at ha
            refine bSn (fun hb => ?_) (fun hb => ?_)
            · rw [ht, e49] at hb
              exact ⟨by rw [if_pos ⟨h4', ha, hb⟩], h4⟩
            · rw [ht, e49] at hb
              refine bLt (fun hh => by omega) (fun _ => ⟨by rw [if_neg (fun hh => hh.2.2 hb)], h4⟩)
          · rw [ht, e48] at ha
            refine bLt (fun hh => by omega) (fun _ => ⟨by rw [if_neg (fun hh => hh.2.1 ha)], h4⟩)
        · refine bLt (fun hh => by omega) (fun _ => ⟨by rw [if_neg (fun hh => h4' hh.1)], h4⟩)

theorem r_value (s : ByteArray) (hs : (bs s).length < 4611686018427387904) : Calls P fn_millpondref11_value #[.string s] w (Ret fun v w' => v = .int .i64 (value (bs s)) ∧ w' = w) := by
  apply of_millpondref11_value
  unfold sh_millpondref11_value
  refine ⟨fun n i w' => ∃ k : Nat, i = k ∧ k ≤ (bs s).length ∧ n = valF 0 ((bs s).take k) ∧ w' = w, fun _ i _ => ((bs s).length - i).toNat, ⟨0, rfl, Nat.zero_le _, by simp [valF], rfl⟩, ?_⟩
  rintro _ n i w1 ⟨k, rfl, hk, rfl, rfl⟩
  rw [← bs_len]
  refine bLt (fun hlt => ?_) (fun hge => ?_)
  · obtain ⟨c, hc⟩ : ∃ c, (bs s)[k]? = some c := ⟨_, List.getElem?_eq_getElem (by omega)⟩
    have hstep : valF 0 ((bs s).take (k + 1)) = if isDig c then IntKind.i64.wrap (IntKind.i64.wrap (valF 0 ((bs s).take k) * 10) + (c.toNat - 48 : Nat)) else valF 0 ((bs s).take k) := by
      rw [take_succ hc, valF_append, valF_one]
    refine ⟨fun b w' => b = isDig c ∧ w' = w1, ?_, ?_⟩
    · refine strI k rfl hc ?_
      refine bGe (fun h48 => ?_) (fun h48 => ?_)
      · refine strI k rfl hc ⟨?_, rfl⟩
        unfold isDig
        rw [decide_eq_true (show 48 ≤ c.toNat by omega), Bool.true_and]
        exact decide_eq_decide.2 (by omega)
      · exact ⟨by unfold isDig; rw [decide_eq_false (show ¬ 48 ≤ c.toNat by omega)]; rfl, rfl⟩
    · rintro _ b w2 ⟨rfl, rfl⟩
      rw [wrapS (by omega)]
      refine bifI (fun hd => ?_) (fun hd => ?_)
      · refine strI k rfl hc ?_
        have hd' := hd
        simp [isDig] at hd'
        refine ⟨⟨k + 1, rfl, by omega, ?_, rfl⟩, by dsimp only; omega⟩
        rw [hstep, hd, if_pos rfl, u8sub hd'.1]
        have := c.toNat_lt
        rw [w64 (n := ((c.toNat - 48 : Nat) : Int)) (by omega) (by omega)]
      · exact ⟨⟨k + 1, rfl, by omega, by rw [hstep, hd]; rfl, rfl⟩, by dsimp only; omega⟩
  · have e : k = (bs s).length := by omega
    subst e
    rw [List.take_length]
    unfold value
    refine bGt (fun hgt => ?_) (fun hle => ?_)
    · obtain ⟨c, hc⟩ : ∃ c, (bs s)[0]? = some c := ⟨_, List.getElem?_eq_getElem (by omega)⟩
      refine strI 0 rfl hc ?_
      rw [hc]
      refine bEq (fun h45 => ?_) (fun h45 => ?_)
      · have e9 : (45 : UInt8).toNat = 45 := rfl
        have : c = 45 := UInt8.toNat_inj.1 (by omega)
        subst this
        exact ⟨by rw [if_pos rfl], rfl⟩
      · have hne : ¬ (some c = some (45 : UInt8)) := by
          intro hh
          have := Option.some.inj hh
          subst this
          exact h45 rfl
        exact ⟨by rw [if_neg hne], rfl⟩
    · have e : bs s = [] := List.eq_nil_of_length_eq_zero (by omega)
      rw [e]
      exact ⟨rfl, rfl⟩

theorem r_Stat {sn sv : Sl} {ns : List Bytes} {vs : List Int} (hN : Strs w sn ns) (hV : Intz w sv vs) (hv : ∀ v ∈ vs, i64 v) (hb : ∀ s ∈ ns, s.length < 1000000) (hn : ns.length < 4611686018427387904) (h : Sep E L w) :
    Calls P fn_millpondref11_Stat #[.slice sn.p sn.n sn.c, .slice sv.p sv.n sv.c] w (Ret fun v w' => StatEnd ns vs v ∧ Grow w w' ∧ Sep E L w') := by
  apply of_millpondref11_Stat
  unfold sh_millpondref11_Stat
  have hsn := hN.n
  have hsv := hV.n
  refine ⟨fun w' => w' = w ∧ ns.length = vs.length ∧ ns.length ≤ 100, ?_, ?_⟩
  · refine bNe (fun hne => ⟨.bad (fun hh => hne (by have := hh.1; omega)), Grow.refl _, h⟩) (fun he => ?_)
    exact bGt (fun hgt => ⟨.bad (fun hh => by have := hh.2.1; omega), Grow.refl _, h⟩) (fun hle => ⟨rfl, by omega, by omega⟩)
  · rintro _ w2 ⟨rfl, h1, h2⟩
    have h0 := Sep.start w2
    have fin : ∀ {w' : World}, Sep (World.env w2) [old w2.heap] w' → Grow w2 w' := fun hh => grow_old (i := 0) rfl hh rfl
    refine ⟨fun s x w' => ∃ k : Nat, x = k ∧ k ≤ ns.length ∧ (∀ s ∈ ns.take k, word s = true) ∧ (ns.take k).Nodup ∧ bs s = render ((ns.zip vs).take k) ∧ Sep (World.env w2) [old w2.heap] w',
      fun _ x _ => (ns.length - x).toNat, ⟨0, rfl, Nat.zero_le _, by simp, by simp, rfl, h0⟩, ?_⟩
    rintro _ s x w5 ⟨k, rfl, hk, hw, hnd, hs, h5⟩
    have g5 := fin h5
    refine bLt (fun hlt => ?_) (fun hge => ?_)
    · obtain ⟨a, ha⟩ : ∃ a, ns[k]? = some a := ⟨_, List.getElem?_eq_getElem (by omega)⟩
      obtain ⟨c, hc⟩ : ∃ c, vs[k]? = some c := ⟨_, List.getElem?_eq_getElem (by omega)⟩
      have hac := hb a (List.mem_of_getElem? ha)
      refine (hN.grow g5).el k rfl ha ?_
      refine use (r_Word (mk a) (by rw [bs_mk]; omega)) ?_
      rintro _ w6 ⟨rfl, rfl⟩
      refine ⟨_, rfl, ?_⟩
      rw [bs_mk]
      refine bifI (fun hh => ⟨.bad (not_word ha (by simpa using hh)), g5, h.grow g5⟩) (fun hh => ?_)
      have hwa : word a = true := by simpa using hh
      refine ⟨fun y w' => ∃ j : Nat, y = j ∧ j ≤ k ∧ (∀ (q : Nat) z, q < j → ns[q]? = some z → z ≠ a) ∧ Sep (World.env w2) [old w2.heap] w', fun y _ => (k - y).toNat, ⟨0, rfl, Nat.zero_le _, fun q z hq => by omega, h5⟩, ?_⟩
      rintro _ y w7 ⟨j, rfl, hj, hno, h7⟩
      refine bLt (fun hjk => ?_) (fun hjk => ?_)
      · refine Dr.i h7 (fun w8 h8 => ?_)
        have g8 := fin h8
        obtain ⟨z, hz⟩ : ∃ z, ns[j]? = some z := ⟨_, List.getElem?_eq_getElem (by omega)⟩
        refine (hN.grow g8).el j rfl hz ?_
        refine (hN.grow g8).el k rfl ha ?_
        refine bS (fun heq => ?_) (fun hne => ?_)
        · rw [bs_mk, bs_mk] at heq
          refine ⟨.bad (not_twice ha ?_), g8, h.grow g8⟩
          rw [← heq, List.mem_iff_getElem?]
          exact ⟨j, by rw [List.getElem?_take, if_pos (by omega)]; exact hz⟩
        · rw [bs_mk, bs_mk] at hne
          rw [wrapS (by omega)]
          refine ⟨⟨j + 1, rfl, by omega, fun q z' hq hz' => ?_, h8⟩, by dsimp only; omega⟩
          by_cases hqj : q = j
          · subst hqj
            rw [hz] at hz'
            rw [← Option.some.inj hz']; exact hne
          · exact hno q z' (by omega) hz'
      · have hjk' : j = k := by omega
        subst hjk'
        have hna : a ∉ ns.take j := by
          intro hm
          obtain ⟨q, hq⟩ := List.mem_iff_getElem?.1 hm
          rw [List.getElem?_take] at hq
          split at hq
          · next hlt' => exact hno q a hlt' hq rfl
          · cases hq
        refine Dr.i h7 (fun w8 h8 => ?_)
        have g8 := fin h8
        have s32 : (ByteArray.mk #[32]).size = 1 := rfl
        have s10 : (ByteArray.mk #[10]).size = 1 := rfl
        have hi := hv c (List.mem_of_getElem? hc)
        have hil := Lib.itoa_length_le c hi.1 hi.2
        have hrl := render_len (zip_ok (k := j) hw hv)
        have htl : ((ns.zip vs).take j).length ≤ 100 := by rw [List.length_take, List.length_zip]; omega
        have hsl : s.size ≤ 6300 := by rw [← bs_len, hs]; omega
        refine (hN.grow g8).at_ j rfl ha (fun adr hadr => ?_)
        have ema : (mk a).size = a.length := mk_size a
        have emi : (mk (Lib.itoa c)).size = (Lib.itoa c).length := mk_size _
        have e0 : (s ++ mk a).size = s.size + a.length := by rw [ByteArray.size_append, ema]
        have e1 : (s ++ mk a ++ ByteArray.mk #[32]).size = s.size + a.length + 1 := by rw [ByteArray.size_append, e0, s32]
        have e2 : (s ++ mk a ++ ByteArray.mk #[32] ++ mk (Lib.itoa c)).size = s.size + a.length + 1 + (Lib.itoa c).length := by rw [ByteArray.size_append, e1, emi]
        refine ⟨mk a, hadr w8 (hN.grow g8), by omega, by omega, ?_⟩
        refine (hV.grow g8).el j rfl hc ?_
        refine use (r_Digits hi h8) ?_
        rintro _ w9 ⟨rfl, g9, h9⟩
        refine ⟨_, rfl, mk a, hadr w9 (hN.grow (g8.trans g9)), rfl, by omega, by omega, ?_⟩
        rw [wrapS (by omega)]
        refine ⟨⟨j + 1, rfl, by omega, word_step ha hw hwa, nodup_step ha hnd hna, ?_, h9⟩, by dsimp only; omega⟩
        rw [render_step (zip_at ha hc), ← hs, bs_append, bs_append, bs_append, bs_append]
        show bs s ++ a ++ [32] ++ Lib.itoa c ++ [10] = _
        simp [line]
    · have e : k = ns.length := by omega
      subst e
      refine ⟨?_, g5, h.grow g5⟩
      have ez : (ns.zip vs).take ns.length = ns.zip vs := List.take_of_length_le (by rw [List.length_zip]; omega)
      rw [ez] at hs
      rw [← mk_bs s, hs]
      refine .good ⟨h1, h2, ?_, ?_⟩
      · rw [List.take_length] at hw; exact hw
      · rw [List.take_length] at hnd; exact hnd

theorem Strs.row {s : Sl} {ns : List Bytes} {q : Nat} (h : Sep E L w) (hq : L[q]? = some (rowA s 1 (strL ns))) (hn : s.n = ns.length) : Strs w s ns := by
  refine ⟨hn, fun i x hx => ?_⟩
  have hlt := (List.getElem?_eq_some_iff.1 hx).1
  have h := h.fr q hq
  obtain ⟨b, spare, hp, h1, _, _, h2⟩ := rowA.get_ h (by omega)
  refine ⟨_, hp, ?_⟩
  rw [add_mk, Nat.zero_add, rowA.cell h2 (by rw [h1]; omega)]
  simp [strL, hx]
theorem Intz.row {s : Sl} {ns : List Int} {q : Nat} (h : Sep E L w) (hq : L[q]? = some (rowA s 1 (intL ns))) (hn : s.n = ns.length) : Intz w s ns := by
  refine ⟨hn, fun i x hx => ?_⟩
  have hlt := (List.getElem?_eq_some_iff.1 hx).1
  have h := h.fr q hq
  obtain ⟨b, spare, hp, h1, _, _, h2⟩ := rowA.get_ h (by omega)
  refine ⟨_, hp, ?_⟩
  rw [add_mk, Nat.zero_add, rowA.cell h2 (by rw [h1]; omega)]
  simp [intL, hx]

/-- What a scan of so many bytes holds. -/
structure ScanOk (st : Scan) (k : Nat) : Prop where
  ln : st.ln.length ≤ k
  nm : st.nm.length ≤ k
  few : st.ns.length ≤ k
  eq : st.ns.length = st.vs.length
  names : ∀ s ∈ st.ns, s.length ≤ k
  vals : ∀ v ∈ st.vs, i64 v
theorem ScanOk.step {st : Scan} {k : Nat} (h : ScanOk st k) (c : UInt8) : ScanOk (scanS st c) (k + 1) := by
  obtain ⟨h1, h2, h3, h4, h5, h6⟩ := h
  unfold scanS
  split
  · exact ⟨by simp, by simpa using Nat.le_succ_of_le h1, by simpa using Nat.le_succ_of_le h3, h4, fun s hs => Nat.le_succ_of_le (h5 s hs), h6⟩
  · split
    · refine ⟨by simp, by simp, by simpa using h3, by simpa using h4, fun s hs => ?_, fun v hv => ?_⟩
      · rcases List.mem_append.1 hs with hs | hs
        · exact Nat.le_succ_of_le (h5 s hs)
        · rw [List.mem_singleton.1 hs]; omega
      · rcases List.mem_append.1 hv with hv | hv
        · exact h6 v hv
        · rw [List.mem_singleton.1 hv]; exact value_i64 _
    · exact ⟨by simpa using h1, by simpa using Nat.le_succ_of_le h2, by simpa using Nat.le_succ_of_le h3, h4, fun s hs => Nat.le_succ_of_le (h5 s hs), h6⟩

theorem r_Parse (text : ByteArray) (ht : (bs text).length < 1000000) (h : Sep E L w) : Calls P fn_millpondref11_Parse #[.string text] w (Ret fun v w' => ParseEnd E L (bs text) v w') := by
  apply of_millpondref11_Parse
  unfold sh_millpondref11_Parse
  refine ⟨fun s1 s2 ln nm i w' => ∃ (k : Nat) (st : Scan), i = k ∧ k ≤ (bs text).length ∧ ((bs text).take k).foldl scanS ⟨[], [], [], []⟩ = st ∧ st.ln = bs ln ∧ st.nm = bs nm ∧ ScanOk st k ∧ s1.n = st.ns.length ∧ s2.n = st.vs.length ∧ Sep E (rowA s1 1 (strL st.ns) :: rowA s2 1 (intL st.vs) :: L) w',
    fun _ _ _ _ i _ => ((bs text).length - i).toNat, ⟨0, ⟨[], [], [], []⟩, rfl, Nat.zero_le _, by simp, rfl, rfl, ⟨by simp, by simp, by simp, rfl, by simp, by simp⟩, rfl, rfl, rowA.none_ (rowA.none_ h)⟩, ?_⟩
  rintro _ s1 s2 ln nm i w1 ⟨k, st, rfl, hk, hst, hln, hnm, hok, hn1, hn2, h1⟩
  rw [← bs_len]
  have h3 := hok.few
  have h4 := hok.eq
  refine bLt (fun hlt => ?_) (fun hge => ?_)
  · obtain ⟨c, hc⟩ : ∃ c, (bs text)[k]? = some c := ⟨_, List.getElem?_eq_getElem (by omega)⟩
    have hstep : ((bs text).take (k + 1)).foldl scanS ⟨[], [], [], []⟩ = scanS st c := by rw [take_succ hc, List.foldl_append, hst]; rfl
    have hok' := hok.step c
    have e32 : (32 : UInt8).toNat = 32 := rfl
    have e10 : (10 : UInt8).toNat = 10 := rfl
    refine strI k rfl hc ?_
    rw [wrapS (by omega)]
    refine bEq (fun h32 => ?_) (fun h32 => ?_)
    · have hcc : c = 32 := UInt8.toNat_inj.1 (by omega)
      have es : scanS st c = ⟨st.ns, st.vs, [], st.ln⟩ := by unfold scanS; rw [if_pos hcc]
      rw [es] at hstep hok'
      exact ⟨⟨k + 1, _, rfl, by omega, hstep, rfl, hln, hok', hn1, hn2, h1⟩, by dsimp only; omega⟩
    · have hc32 : c ≠ 32 := fun e => h32 (by rw [e]; rfl)
      refine strI k rfl hc ?_
      refine bEq (fun h10 => ?_) (fun h10 => ?_)
      · have hcc : c = 10 := UInt8.toNat_inj.1 (by omega)
        have es : scanS st c = ⟨st.ns ++ [st.nm], st.vs ++ [value st.ln], [], []⟩ := by unfold scanS; rw [if_neg hc32, if_pos hcc]
        rw [es] at hstep hok'
        refine Al.i h1 (fun q w2 h2 => ?_)
        refine str_push hn1 (by omega) h2 (fun s1' w3 hs1 h3' => ?_)
        refine use (r_value ln (by have := hok.ln; rw [hln] at this; omega)) ?_
        rintro _ w4 ⟨rfl, rfl⟩
        refine ⟨_, rfl, ?_⟩
        refine Al.i h3' (fun q2 w5 h5 => ?_)
        have h5 := h5.ro 3 [0, 2, 1] rfl
        refine int_push hn2 (by omega) h5 (fun s2' w6 hs2 h6 => ?_)
        rw [← hln] at hs2 h6
        rw [← hnm] at hs1 h6
        exact ⟨⟨k + 1, _, rfl, by omega, hstep, rfl, rfl, hok', hs1, hs2, h6.swap⟩, by dsimp only; omega⟩
      · have hc10 : c ≠ 10 := fun e => h10 (by rw [e]; rfl)
        have es : scanS st c = ⟨st.ns, st.vs, st.ln ++ [c], st.nm⟩ := by unfold scanS; rw [if_neg hc32, if_neg hc10]
        rw [es] at hstep hok'
        have hex : bs (text.extract (k : Int).toNat (((k + 1 : Nat) : Int).toNat)) = [c] := by
          rw [bs_sub]
          have e : ((k + 1 : Nat) : Int).toNat - (k : Int).toNat = 1 := by omega
          have e2 : (k : Int).toNat = k := by omega
          rw [e, e2]
          rw [List.drop_eq_getElem_cons (by omega)]
          have := (List.getElem?_eq_some_iff.1 hc).2
          simp [this]
        have hll := hok.ln
        rw [hln, bs_len] at hll
        refine ⟨⟨by omega, by omega⟩, ⟨by omega, by omega⟩, ?_, ⟨k + 1, _, rfl, by omega, hstep, ?_, hnm, hok', hn1, hn2, h1⟩, by dsimp only; omega⟩
        · rw [← bs_len (text.extract _ _), hex, List.length_singleton]; omega
        · rw [bs_append, hex, ← hln]
  · have e : k = (bs text).length := by omega
    subst e
    rw [List.take_length] at hst
    have hsc : scan (bs text) = st := hst
    have hps := parse_scan (bs text) (by rw [hsc]; exact hok.vals)
    rw [hsc] at hps
    refine use (r_Stat (Strs.row (q := 0) h1 rfl hn1) (Intz.row (q := 1) h1 rfl hn2) hok.vals (fun s hs => by have := hok.names s hs; omega) (by omega) h1) ?_
    rintro _ w2 ⟨rfl, _, h2⟩
    refine ⟨_, _, rfl, ?_⟩
    cases hs : stat st.ns st.vs with
    | none =>
      rw [hs] at hps
      exact bNe (fun _ => .bad (hps.trans (if_neg (by simp))) h2.tail.tail) (fun hh => absurd hh (by decide))
    | some t =>
      rw [hs] at hps
      refine bNe (fun hh => absurd rfl hh) (fun _ => ?_)
      refine bSn (fun hne => ?_) (fun heq => ?_)
      · refine .bad (hps.trans (if_neg (fun hh => hne ?_))) h2.tail.tail
        exact Option.some.inj hh
      · have heq' : t = bs text := heq
        rw [if_pos (by rw [heq'])] at hps
        have hlz : (st.ns.zip st.vs).length = st.ns.length := by rw [List.length_zip]; omega
        refine ⟨s1, s2, by rw [hps]; rfl, by rw [hps]; exact hn1.trans hlz.symm, by rw [hps]; exact hn2.trans (h4.symm.trans hlz.symm), ?_⟩
        rw [hps]
        show Sep E (rowA s1 1 (strL ((st.ns.zip st.vs).map (·.1))) :: rowA s2 1 (intL ((st.ns.zip st.vs).map (·.2))) :: L) w2
        rw [zip_fst h4, zip_snd h4]
        exact h2

end Go.Mp
