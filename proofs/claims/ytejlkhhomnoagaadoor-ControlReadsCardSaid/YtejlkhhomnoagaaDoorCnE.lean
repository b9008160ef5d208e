/- What a stat's text tells. -/
import Derived.Test.YtejlkhhomnoagaaDoorCnD
import Derived.WideLaws
set_option maxRecDepth 100000
namespace Go.Mp
open Go Go.Vc Go.Sp Go.Proofs Go.Ct

variable {E : Env} {L : List Asn} {w : World}

theorem str_push {s : Sl} {q : Nat} {l : List Bytes} {x : ByteArray} (hn : s.n = l.length) (hb : l.length < 100000000) (h : Sep E (blk q [.string x] :: rowA s 1 (strL l) :: L) w) {G : Sl → World → Prop}
    (g : ∀ s' w1, s'.n = (l ++ [bs x]).length → Sep E (rowA s' 1 (strL (l ++ [bs x])) :: L) w1 → G s' w1) :
    ∃ x1 : Sl, ∃ w1, Sem.run P (Builtin.append_ #[28, 28] 28 #[.slice s.p s.n s.c, .slice (some ⟨q, 0, none⟩) 1 1]) w = .ok (.slice x1.p x1.n x1.c) w1 ∧ G x1 w1 := by
  have hs := Src.blk (n := 1) (c := 1) h (i := 0) rfl slStr rfl (fun u hu => by
    simp at hu; subst hu; rfl)
  refine rowA.append h.swap slStr rfl hs (by omega) (by rw [hn]; omega) (fun s' w1 hs' h1 => g s' w1 (by rw [hs', hn]; simp) ?_)
  have e : strL (l ++ [bs x]) = strL l ++ [.string x] := by simp [strL, strV, mk_bs]
  rw [e]
  exact (h1.fr 0 rfl).ro 2 [0] rfl
theorem int_push {s : Sl} {q : Nat} {l : List Int} {x : Int} (hn : s.n = l.length) (hb : l.length < 100000000) (h : Sep E (blk q [.int .i64 x] :: rowA s 1 (intL l) :: L) w) {G : Sl → World → Prop}
    (g : ∀ s' w1, s'.n = (l ++ [x]).length → Sep E (rowA s' 1 (intL (l ++ [x])) :: L) w1 → G s' w1) :
    ∃ x1 : Sl, ∃ w1, Sem.run P (Builtin.append_ #[29, 29] 29 #[.slice s.p s.n s.c, .slice (some ⟨q, 0, none⟩) 1 1]) w = .ok (.slice x1.p x1.n x1.c) w1 ∧ G x1 w1 := by
  have hs := Src.blk (n := 1) (c := 1) h (i := 0) rfl slInt rfl (fun u hu => by
    simp at hu; subst hu; rfl)
  refine rowA.append h.swap slInt rfl hs (by omega) (by rw [hn]; omega) (fun s' w1 hs' h1 => g s' w1 (by rw [hs', hn]; simp) ?_)
  have e : intL (l ++ [x]) = intL l ++ [.int .i64 x] := by simp [intL]
  rw [e]
  exact (h1.fr 0 rfl).ro 2 [0] rfl

theorem iface53 : P.underlying 53 = some (.interface (P.methodsAt 53)) := by kernel_rfl

/-- A row of both. -/
def ParseEnd (E : Env) (L : List Asn) (t : Bytes) (v : Value) (w' : World) : Prop :=
  ∃ s1 s2 : Sl, v = .tuple #[.slice s1.p s1.n s1.c, .slice s2.p s2.n s2.c, .int .i64 (if (parse t).isSome then 0 else 20)] ∧ s1.n = ((parse t).getD []).length ∧ s2.n = ((parse t).getD []).length ∧
    Sep E (rowA s1 1 (strL (((parse t).getD []).map (·.1))) :: rowA s2 1 (intL (((parse t).getD []).map (·.2))) :: L) w'
theorem ParseEnd.bad {t : Bytes} (h : parse t = none) (hs : Sep E L w) : ParseEnd E L t (.tuple #[.slice none 0 0, .slice none 0 0, .int .i64 20]) w := by
  refine ⟨⟨none, 0, 0⟩, ⟨none, 0, 0⟩, by rw [h]; rfl, by rw [h]; rfl, by rw [h]; rfl, ?_⟩
  rw [h]
  exact rowA.none_ (rowA.none_ hs)

theorem c_Parse {W : World} {i : Nat} (hi : L[i]? = some (old W.heap)) (l : Libs W) (text : ByteArray) (ht : (bs text).length < 1000000) (h : Sep E L w) : Calls P fn_control_Parse #[.string text] w (Ret fun v w' => ParseEnd E L (bs text) v w') := by
  apply of_control_Parse
  unfold sh_control_Parse
  refine mapF.new (enc := encS) h (fun m w1 h1 => ?_)
  refine ⟨fun s1 s2 rest w' => ∃ R : List (Bytes × Int), Ok R ∧ bs text = render R ++ bs rest ∧ s1.n = R.length ∧ s2.n = R.length ∧ Sep E (rowA s1 1 (strL (R.map (·.1))) :: rowA s2 1 (intL (R.map (·.2))) :: mapF m encS (metF (R.map (·.1))) :: L) w',
    fun _ _ rest _ => (bs rest).length, ⟨[], Ok.nil, by simp [render], rfl, rfl, ?_⟩, ?_⟩
  · rw [List.map_nil, metF_nil]; exact rowA.none_ (rowA.none_ h1)
  rintro _ s1 s2 rest w2 ⟨R, hR, hT, hn1, hn2, h2⟩
  have hi3 : ∀ A B C : Asn, (A :: B :: C :: L)[i + 3]? = some (old W.heap) := fun A B C => by simpa using hi
  have hrl : (bs rest).length ≤ (bs text).length := by rw [hT, List.length_append]; omega
  have hRl := hR.len
  refine bSn (fun hne => ?_) (fun he => ?_)
  · have hne' : bs rest ≠ [] := hne
    refine use (c_Cut rest _ (by rw [← bs_len]; omega) (l.old (hi3 _ _ _) h2) h2) ?_
    have e10 : bs (ByteArray.mk #[10]) = [10] := rfl
    have e32 : bs (ByteArray.mk #[32]) = [32] := rfl
    rw [e10]
    by_cases hx : ∃ x more, Step R (bs rest) x more
    · obtain ⟨x, more, hx⟩ := hx
      have ec : Lib.cut (bs rest) [10] = _ := hx.eq ▸ line_cut hx.ok more
      simp only [ec]
      rintro _ w3 ⟨rfl, _, h3⟩
      refine ⟨_, _, _, rfl, ?_⟩
      have hxl : (x.1 ++ 32 :: Lib.itoa x.2).length ≤ (bs rest).length := by
        rw [hx.eq]; simp [line]
      refine use (c_Cut _ _ (by rw [mk_size]; omega) (l.old (hi3 _ _ _) h3) h3) ?_
      simp only [e32, bs_mk, line_cut2 hx.ok]
      rintro _ w4 ⟨rfl, _, h4⟩
      refine ⟨_, _, _, rfl, ?_⟩
      have hil := Lib.itoa_length_le x.2 hx.ok.2.1 hx.ok.2.2
      refine use (c_Atoi _ (by rw [mk_size]; omega) (l.old (hi3 _ _ _) h4) h4) ?_
      rintro _ w5 ⟨n, e, rfl, hae, _, h5⟩
      unfold AtoiEnd at hae
      rw [bs_mk, atoi_itoa hx.ok.2] at hae
      obtain ⟨rfl, rfl⟩ := hae
      refine ⟨_, _, rfl, bifF ?_⟩
      have hwl := word_len hx.ok.1
      refine use (c_Word (mk x.1) (by rw [bs_mk]; omega)) ?_
      rintro _ w6 ⟨rfl, rfl⟩
      refine ⟨_, rfl, ?_⟩
      rw [bs_mk, hx.ok.1]
      refine bifF ⟨_, look (i := 2) (mk x.1) h5 rfl, ?_⟩
      rw [bs_mk, decide_eq_false hx.new]
      refine bifF ⟨false, w6, ?_, bifF ?_⟩
      · rw [Sem.run_bind]
        have e1 : (eqGuard .neq 53 (.tmp 51) (.const .nilIface) .nilIface .nilIface).run P w6 = .ok () w6 := by simp [eqGuard]
        rw [e1, Result.andThen_ok]
        exact run_neq_nil_nil _ 53 iface53
      refine use (c_Itoa hx.ok.2 (l.old (hi3 _ _ _) h5) h5) ?_
      rintro _ w7 ⟨rfl, _, h7⟩
      refine ⟨_, rfl, ?_⟩
      refine bSn (fun hh => absurd rfl hh) (fun _ => ?_)
      refine bGe (fun hh => by have := hx.few; omega) (fun _ => ?_)
      refine mapUpdate.i (h7.fr 2 rfl) K_str mS (mk x.1) (.bool true) (fun w8 h8 => ?_)
      rw [metF_add, bs_mk] at h8
      refine Al.i h8 (fun q w9 h9 => ?_)
      have h9 := h9.ro 4 [0, 2, 3, 1] rfl
      refine str_push (hn1.trans (by simp)) (by simp; omega) h9 (fun s1' w10 hs1 h10 => ?_)
      refine Al.i h10 (fun q2 w11 h11 => ?_)
      have h11 := h11.ro 4 [0, 2, 1, 3] rfl
      refine int_push (hn2.trans (by simp)) (by simp; omega) h11 (fun s2' w12 hs2 h12 => ?_)
      refine ⟨⟨R ++ [x], hR.snoc hx.ok hx.new hx.few, ?_, ?_, ?_, ?_⟩, ?_⟩
      · rw [hT, hx.eq, render_append, render_one, List.append_assoc]
      · rw [hs1]; simp
      · rw [hs2]; simp
      · rw [List.map_append, List.map_append]
        exact h12.swap
      · show more.length < (bs rest).length
        rw [hx.eq]
        simp [line]
        omega
    · have hbad : parse (bs text) = none := parse_none (fun ⟨R', hR', e⟩ => hx (step_of hR hR' (e.trans hT) hne'))
      rcases cut_cases (bs rest) 10 with ⟨ln, more, hr, hnl, hcut⟩ | ⟨hnl, hcut⟩
      · simp only [hcut]
        rintro _ w3 ⟨rfl, _, h3⟩
        refine ⟨_, _, _, rfl, ?_⟩
        have hll : ln.length ≤ (bs rest).length := by rw [hr]; simp
        refine use (c_Cut _ _ (by rw [mk_size]; omega) (l.old (hi3 _ _ _) h3) h3) ?_
        rw [e32, bs_mk]
        obtain ⟨nm, dg, fl, hc2, hlen⟩ : ∃ nm dg fl, Lib.cut ln [32] = (nm, dg, fl) ∧ ((fl = true ∧ ln = nm ++ 32 :: dg) ∨ (dg = [] ∧ nm = ln)) := by
          rcases cut_cases ln 32 with ⟨a, b, h1, _, h2⟩ | ⟨_, h2⟩
          · exact ⟨_, _, _, h2, .inl ⟨rfl, h1⟩⟩
          · exact ⟨_, _, _, h2, .inr ⟨rfl, rfl⟩⟩
        have hnm : nm.length ≤ ln.length ∧ dg.length ≤ ln.length := by
          rcases hlen with ⟨_, e⟩ | ⟨e1, e2⟩
          · rw [e]; simp; omega
          · rw [e1, e2]; simp
        simp only [hc2]
        rintro _ w4 ⟨rfl, _, h4⟩
        refine ⟨_, _, _, rfl, ?_⟩
        refine use (c_Atoi _ (by rw [mk_size]; omega) (l.old (hi3 _ _ _) h4) h4) ?_
        rintro _ w5 ⟨n, e, rfl, hae, _, h5⟩
        have fail : ∀ {w' : World}, Sep E (rowA s1 1 (strL (R.map (·.1))) :: rowA s2 1 (intL (R.map (·.2))) :: mapF m encS (metF (R.map (·.1))) :: L) w' → ParseEnd E L (bs text) (.tuple #[.slice none 0 0, .slice none 0 0, .int .i64 20]) w' := fun hh => .bad hbad hh.tail.tail.tail
        refine ⟨_, _, rfl, bifF ?_⟩
        refine use (c_Word (mk nm) (by rw [bs_mk]; omega)) ?_
        rintro _ w6 ⟨rfl, rfl⟩
        refine ⟨_, rfl, ?_⟩
        rw [bs_mk]
        refine bifI (fun _ => fail h5) (fun hwd => ?_)
        refine ⟨_, look (i := 2) (mk nm) h5 rfl, ?_⟩
        rw [bs_mk]
        refine bifI (fun _ => fail h5) (fun hmet => ?_)
        unfold AtoiEnd at hae
        rw [bs_mk] at hae
        rcases hat : Lib.atoiAll dg with v | _ | _
        · rw [hat] at hae
          obtain ⟨rfl, rfl⟩ := hae
          refine ⟨false, w6, ?_, bifF ?_⟩
          · rw [Sem.run_bind]
            have e1 : (eqGuard .neq 53 (.tmp 51) (.const .nilIface) .nilIface .nilIface).run P w6 = .ok () w6 := by simp [eqGuard]
            rw [e1, Result.andThen_ok]
            exact run_neq_nil_nil _ 53 iface53
          have hvi : i64 n := Lib.atoiAll_bounds hat
          refine use (c_Itoa hvi (l.old (hi3 _ _ _) h5) h5) ?_
          rintro _ w7 ⟨rfl, _, h7⟩
          refine ⟨_, rfl, ?_⟩
          refine bSn (fun _ => fail h7) (fun heq => ?_)
          rw [bs_mk, bs_mk] at heq
          refine bGe (fun _ => fail h7) (fun hfew => ?_)
          exfalso
          apply hx
          have hdg : ln = nm ++ 32 :: dg := by
            rcases hlen with ⟨_, e⟩ | ⟨e1, e2⟩
            · exact e
            · rw [e1] at hat; cases hat
          refine ⟨(nm, n), more, ?_, ⟨by simpa using hwd, hvi⟩, by simpa using hmet, by omega⟩
          rw [hr, hdg, ← heq]
          simp [line]
        · rw [hat] at hae
          obtain ⟨t, N, _, rfl⟩ := hae
          refine ⟨true, w6, ?_, bifT (fail h5)⟩
          rw [Sem.run_bind]
          have e1 : (eqGuard .neq 53 (.tmp 51) (.const .nilIface) (.iface t (.pointer (some ⟨N, 0, none⟩))) .nilIface).run P w6 = .ok () w6 := by simp [eqGuard]
          rw [e1, Result.andThen_ok]
          exact run_neq_held_nil _ 53 t _ iface53
        · rw [hat] at hae
          obtain ⟨t, N, _, rfl⟩ := hae
          refine ⟨true, w6, ?_, bifT (fail h5)⟩
          rw [Sem.run_bind]
          have e1 : (eqGuard .neq 53 (.tmp 51) (.const .nilIface) (.iface t (.pointer (some ⟨N, 0, none⟩))) .nilIface).run P w6 = .ok () w6 := by simp [eqGuard]
          rw [e1, Result.andThen_ok]
          exact run_neq_held_nil _ 53 t _ iface53
      · simp only [hcut]
        rintro _ w3 ⟨rfl, _, h3⟩
        refine ⟨_, _, _, rfl, ?_⟩
        refine use (c_Cut _ _ (by rw [mk_size]; omega) (l.old (hi3 _ _ _) h3) h3) ?_
        simp only [e32, bs_mk]
        rintro _ w4 ⟨rfl, _, h4⟩
        refine ⟨_, _, _, rfl, ?_⟩
        have hdl : (Lib.cut (bs rest) [32]).2.1.length ≤ (bs rest).length := by
          rcases cut_cases (bs rest) 32 with ⟨a, b, h1, _, h2⟩ | ⟨_, h2⟩
          · rw [h2, h1]; simp; omega
          · rw [h2]; simp
        refine use (c_Atoi _ (by rw [mk_size]; omega) (l.old (hi3 _ _ _) h4) h4) ?_
        rintro _ w5 ⟨n, e, rfl, hae, _, h5⟩
        exact ⟨_, _, rfl, bifT (.bad hbad h5.tail.tail.tail)⟩
  · have he' : bs rest = [] := he
    rw [he', List.append_nil] at hT
    have hp := parse_eq hR hT.symm
    refine ⟨s1, s2, by rw [hp]; rfl, by rw [hp]; exact hn1, by rw [hp]; exact hn2, ?_⟩
    rw [hp]
    exact h2.ro 3 [0, 1] rfl

end Go.Mp
