/-
  Contracts of the package table: all keys, all entries, the updates that make a table again.
-/
import Derived.Test.YtgnceldnfefnmaaGreatLawTaken
import Derived.Test.YtgnceldnfefnmaaGreatSortStrHp
import Derived.Test.YtgnceldnfefnmaaGreatSortStr
namespace Go.Tab
open Go Go.Vc Go.Vc.Asn
structure Hd where
  key : ByteArray
  s : Slc
  es : List Ec
def Hd.c (h : Hd) : List Value := [.string h.key, h.s.v]
def Hd.abs (h : Hd) : ByteArray × List En := (h.key, h.es.map Ec.abs)
def allS (T : Tc) : List (ByteArray × List En) := (sortK (T.keys.map (·.1))).map fun k => (k, listS (T.sh k))
theorem allS_len (T : Tc) : (allS T).length = T.keys.length := by unfold allS; rw [List.length_map, (sortK_perm _).length_eq, List.length_map]
end Go.Tab
namespace Go.Proofs.YtgnceldnfefnmaaGreat
open Go Go.Vc Go.Vc.Asn Go.Tab Go.Sort
section
variable {p : Nat} {T : Tc} {w0 w : World} {F : Asn}
theorem one_str (l : List ByteArray) : ∀ u ∈ l.map Value.string, u.oneCell' = true := by
  intro u hu
  obtain ⟨b, _, rfl⟩ := List.mem_map.1 hu
  rfl
theorem keys0_c : Calls PP F_table_Table_Keys #[.pointer none] w (Rt fun v w' => v = Slc.nil.v ∧ w' = w) := by
  refine sim_table_Table_Keys _ _ _ ?_
  unfold vc_table_Table_Keys
  exact ⟨fun _ => Rt.ok ⟨rfl, rfl⟩, fun h => by simp at h⟩
theorem keys_c (hl : T.keys.length ≤ 1099511627776) (H : Hp w0 w (star (tabA p T) F)) :
    Calls PP F_table_Table_Keys #[.pointer (some (blk p))] w (Rt fun v w' => ∃ s, v = Slc.v s ∧ Hp w0 w' (star (own Ty_string 1 s ((sortK (T.keys.map (·.1))).map Value.string)) (star (tabA p T) F))) := by
  refine sim_table_Table_Keys _ _ _ ?_
  unfold vc_table_Table_Keys
  have H : Hp w0 w (star (tabB p T) (star (mpK T.gk T.keys) (star (all shelfA T.keys) F))) := H.assoc.ent (Ent.star (Ent.refl _) Asn.assoc)
  refine ⟨fun h => by simp at h, fun _ => ⟨_, rfl, _, H.cell (b := p) (i := 1) rfl, ?_⟩⟩
  have H := H.take (mpK T.gk T.keys)
  refine Hp.rng und_keys H fun it w1 H => ?_
  refine ⟨fun s w' => ∃ (rest : List (ByteArray × Nat × Sc)) (ks : List ByteArray) (cur : Option (ByteArray × Nat × Sc)), (ks ++ rest.map (·.1)).Perm (T.keys.map (·.1)) ∧ Hp w0 w' (star (mr (fun s : ByteArray => Value.string s) (fun y : Nat × Sc => Value.map (some y.1)) it T.gk T.keys rest cur) (star (own Ty_string 1 s (ks.map Value.string)) (star (tabB p T) (star (all shelfA T.keys) F)))), fun _ w => mleft it T.gk w, ⟨T.keys, [], none, by simp, ?_⟩, ?_⟩
  · exact H.ent (Ent.star (Ent.refl _) (fun w S h => ⟨fun _ => False, S, fun k => by simp, fun k h => h.elim, ⟨fun k => by simp [Slc.blks], Own.nil _ _ _⟩, h⟩))
  rintro s w2 ⟨rest, ks, cur, hp, H⟩
  have hm := H.left
  have hk := H.mrKeys.2
  have hlen : ks.length + rest.length = T.keys.length := by have := hp.length_eq; simpa using this
  have hsl : s.l = ks.length := by
    have := (H.cel (s := s)).len
    simp at this
    omega
  refine H.nxt (fun hr => ⟨(fun h => nomatch h), fun _ => ?_⟩) fun x hx w3 H => ⟨fun _ => ?_, fun h => nomatch h⟩
  · subst hr
    have hts : ks.Perm (T.keys.map (·.1)) := by simpa using hp
    have H := H.mrEnd.own s
    rw [← encStr_eta] at H
    refine call (Hp.sortStr Tryz.sortStr (by simp; omega) H) ?_
    rintro _ w3 ⟨rfl, H⟩
    rw [encStr_sort, sortK_ext hts] at H
    refine ⟨rfl, Rt.ok ⟨_, rfl, ?_⟩⟩
    have H := H.ent (Ent.star (Ent.refl _) left)
    exact H.ent (Ent.star (Ent.refl _) ((Ent.star (Ent.refl _) Asn.assoc').trans Asn.assoc'))
  · have hm2 := H.left
    have hlt := ldel_lt hx
    have hp2 := (ldel_perm hk hx).map (·.1)
    refine H.etr ⟨_, _, rfl, H.newRow (e := Ty_string) (n := 1) (size := 1) [.string x.1] rfl rfl (by decide) fun b32 w4 H => ?_⟩
    refine H.app (s := s) slT_sl_string (H.cel (s := ⟨some (blk b32), 1, 1⟩)) (fun u hu => one_str [x.1] u (by simpa using hu)) (by unfold maxLen; simp only; omega) (by simp only; omega) fun s' w5 H _ => ?_
    have H := ((H.own ⟨some (blk b32), 1, 1⟩).drop.own s').take (mr (fun s : ByteArray => Value.string s) (fun y : Nat × Sc => Value.map (some y.1)) it T.gk T.keys (ldel rest x.1) (some x))
    have hm3 := H.left
    refine ⟨⟨ldel rest x.1, ks ++ [x.1], some x, ?_, ?_⟩, by dsimp only; omega⟩
    · refine List.Perm.trans ?_ hp
      rw [List.append_assoc]
      exact List.Perm.append_left _ hp2.symm
    · rw [List.map_append]
      exact H
def heldA (h : Hd) : Asn := entsA h.s h.es
def heldsA (s : Slc) (hs : List Hd) : Asn := star (own Ty_api_Held 2 s (hs.flatMap Hd.c)) (all heldA hs)
theorem hd_len (h : Hd) : h.c.length = 2 := rfl
theorem one_hd (es : List Hd) : ∀ u ∈ es.flatMap Hd.c, u.oneCell' = true := by
  intro u hu
  obtain ⟨t, _, h⟩ := List.mem_flatMap.1 hu
  simp [Hd.c] at h
  rcases h with rfl | rfl <;> rfl
theorem heldsA_nil : Ent F (star (heldsA Slc.nil []) F) := by
  intro w S h
  refine ⟨fun _ => False, S, fun k => by simp, fun k h => h.elim, ⟨fun _ => False, fun _ => False, fun k => by simp, fun k h => h.elim, ⟨fun k => by simp [Slc.blks], Own.nil _ _ _⟩, fun k h => h⟩, h⟩
theorem all0_c : Calls PP F_table_Table_All #[.pointer none] w (Rt fun v w' => v = Slc.nil.v ∧ w' = w) := by
  refine sim_table_Table_All _ _ _ ?_
  unfold vc_table_Table_All
  refine call keys0_c ?_
  rintro _ w1 ⟨rfl, h⟩
  subst h
  refine ⟨_, rfl, fun s i w' => s = Slc.nil ∧ i = 0 ∧ w' = w1, fun _ _ _ => 0, ⟨rfl, rfl, rfl⟩, ?_⟩
  rintro _ _ _ ⟨rfl, rfl, rfl⟩
  exact ⟨fun h => by simp at h, fun _ => Rt.ok ⟨rfl, rfl⟩⟩
structure Tell (T : Tc) : Prop where
  n : T.keys.length ≤ 1099511627776
  len : ∀ k, (T.sh k).length ≤ 1099511627776
  tag : ∀ k, TagOk (T.sh k)
  data : ∀ k, ∀ x ∈ T.sh k, x.2.data.length ≤ 1099511627776
theorem all_c (hT : Tell T) (H : Hp w0 w (star (tabA p T) F)) :
    Calls PP F_table_Table_All #[.pointer (some (blk p))] w (Rt fun v w' => ∃ s hs, v = Slc.v s ∧ hs.map Hd.abs = allS T ∧ Hp w0 w' (star (heldsA s hs) (star (tabA p T) F))) := by
  refine sim_table_Table_All _ _ _ ?_
  unfold vc_table_Table_All
  refine call (keys_c hT.n H) ?_
  rintro _ w1 ⟨sk, rfl, H⟩
  have hkl : sk.l = (sortK (T.keys.map (·.1))).length := by
    have := (H.cel (s := sk)).len
    simp at this
    omega
  have hsz : (sortK (T.keys.map (·.1))).length = T.keys.length := by rw [(sortK_perm _).length_eq, List.length_map]
  have hn := hT.n
  have hall : allS T = (sortK (T.keys.map (·.1))).map fun k => (k, listS (T.sh k)) := rfl
  generalize hK : sortK (T.keys.map (·.1)) = K at *
  refine ⟨_, rfl, fun s i w' => ∃ (q : Nat) (hs : List Hd), i = (q : Int) ∧ q ≤ K.length ∧ hs.map Hd.abs = (K.take q).map (fun k => (k, listS (T.sh k))) ∧ Hp w0 w' (star (heldsA s hs) (star (own Ty_string 1 sk (K.map Value.string)) (star (tabA p T) F))), fun _ i _ => K.length - i.toNat, ⟨0, [], rfl, Nat.zero_le _, by simp, H.ent heldsA_nil⟩, ?_⟩
  rintro s _ w2 ⟨q, hs, rfl, hq, hab, H⟩
  have hl : hs.length = q := by have := congrArg List.length hab; simpa [Nat.min_eq_left hq] using this
  have H := H.assoc
  have hsl : s.l = hs.length := Cel.flen (enc := Hd.c) hd_len (H.cel (s := s)) (by decide)
  refine ⟨fun h => ?_, fun h => ?_⟩
  · have hlt : q < K.length := by rw [hkl] at h; simp only [decide_eq_true_eq] at h; omega
    obtain ⟨a, ha, hc⟩ := (H.cel (s := sk)).at_ q (.string K[q]) (by simp [List.getElem?_eq_getElem hlt])
    have e1 : wr .i64 ((q : Int) + 1) = ((q + 1 : Nat) : Int) := by rw [wr64 (by omega) (by omega)]; omega
    refine ⟨a, ha, by omega, by omega, _, by rw [Int.toNat_natCast, Nat.mul_one]; exact hc, call (entries_c (hT.len _) (hT.tag _) (hT.data _) (H.take (tabA p T))) ?_⟩
    rintro _ w3 ⟨sE, es, rfl, hes, H⟩
    refine ⟨_, rfl, H.newRow (e := Ty_api_Held) (n := 1) (size := 2) (Hd.c ⟨K[q], sE, es⟩) rfl rfl (by decide) fun b26 w4 H => ?_⟩
    refine H.app (s := s) slT_sl_api_Held (H.cel (s := ⟨some (blk b26), 1, 1⟩)) (fun u hu => one_hd [⟨K[q], sE, es⟩] u (by simpa using hu)) (by unfold maxLen; simp only; omega) (by simp only; omega) fun s' w5 H _ => ?_
    have H := (H.own ⟨some (blk b26), 1, 1⟩).drop
    have H := (((H.take (all heldA hs)).take (entsA sE es)).assoc').ent (Ent.star (all_snoc heldA ⟨K[q], sE, es⟩ hs) (Ent.refl _))
    have H := (H.own s').assoc'
    refine ⟨⟨q + 1, hs ++ [⟨K[q], sE, es⟩], by rw [e1], by omega, ?_, ?_⟩, by dsimp only; rw [e1]; omega⟩
    · rw [List.map_append, hab, List.take_succ_eq_append_getElem hlt, List.map_append]
      simp [Hd.abs, hes]
    · unfold heldsA
      have eF : ∀ h' : Hd, (hs ++ [h']).flatMap Hd.c = hs.flatMap Hd.c ++ h'.c := fun h' => by simp
      rw [eF]
      refine H.ent ?_
      exact Ent.star (Ent.refl _) (Ent.pick (P := own Ty_string 1 sk _) (Ent.pick (P := tabA p T) (Ent.refl _)))
  · have hqe : q = K.length := by rw [hkl] at h; simp only [decide_eq_false_iff_not] at h; omega
    subst hqe
    refine Rt.ok ⟨s, hs, rfl, by rw [hab, List.take_length, hall], ?_⟩
    have H := (H.own sk).drop
    exact H.assoc'.ent (Ent.refl _)
end
end Go.Proofs.YtgnceldnfefnmaaGreat
