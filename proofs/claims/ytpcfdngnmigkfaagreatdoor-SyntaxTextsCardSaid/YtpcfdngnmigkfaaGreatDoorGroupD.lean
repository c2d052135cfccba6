/- Package syntax, walked: sign, word, must, name, dotted, typ. Package syntax, walked: dotted names, types. Package syntax, walked: types; empty parts, a block's end. Package syntax, walked: does a block go on? -/
import Derived.Test.YtpcfdngnmigkfaaGreatDoorGroupI
set_option linter.unusedVariables false
set_option linter.unusedSimpArgs false
namespace Go.Proofs.YtpcfdngnmigkfaaGreatDoor
open Go.RowKit
theorem Vars.kept {A : Nat → Addr} {p : Nat} {w w' : World} (h : Vars A w) (hk : Kept [p] w w') (hp : p ≤ w.heap.size) (hG : GLt p) : Vars A w' :=
 h.keep (hk.below (B := p) hp (fun k hm => by rw [List.mem_singleton.1 hm]; exact Nat.le_refl _)) hG
theorem Par.own {A : Nat → Addr} {p g1 : Nat} {v : Value} {ts : List Lx.Tok} {s0 s : Sx.St} {w w5 w6 : World} {cs : List Value} (h0 : Par A p v ts s0 w) (hk : Kept [p] w w5) (h5 : Par A p v ts s w5) (hB : Blk w5 g1 cs) (hl : cs.length ≠ 3)
  (hg : w5.grownBy w6 (some g1)) (hge : w.heap.size ≤ g1) : Par A p v ts s w6 ∧ Kept [p] w w6 := by
 have hlt := h0.lt
 obtain ⟨_, _, _, hF0, _⟩ := h0
 obtain ⟨ev5, hB5, hE5, _, hl5⟩ := h5
 have hk6 := hk.then_new hg hge
 exact ⟨⟨ev5, hB5.grown hg (fun e => by cases e; omega), hE5.other hB hl hg, hF0.mono hk6.fle, hl5⟩, hk6⟩
set_option maxHeartbeats 2000000 in
theorem sign_any (A : Nat → Addr) (p : Nat) (b : UInt8) (v : Value) (ts : List Lx.Tok) (s : Sx.St) (w : World) (hv : Vars A w) (hG : GLt p) (h : Par A p v ts s w) :
  Calls Tryz.prog 47 #[.pointer (some ⟨p, 0, none⟩), .string (toB [b])] w fun e w' => e = .returned (.tuple #[]) ∧ Par A p v ts (Sx.sign ts b s) w' ∧ Kept [p] w w' := by
 have HT := Yq (takes_any A p 4 (by decide) v ts s [b] w h)
 have Hv := Yq hv
 have Hlt := Yq h.lt
 unfold Sx.sign Sx.must
 unfold Sx.takes at HT
 clear h hv
 cases hs : Sx.sees ts 4 [b] s
 ·rw [hs] at HT
  clear hs
  go_enter Tryz.func47, Tryz.ntmps47
  go_wp2_with fail
  refine HT.out.mono ?_
  rintro e w1 ⟨rfl, hp1, hk1⟩
  have HF := Yq (fail_any A p v ts s w1 (Hv.out.kept hk1 (Nat.le_of_lt Hlt.out) hG) hp1)
  clear hp1
  go_wp2_with fail
  refine HF.out.mono ?_
  rintro e w2 ⟨rfl, hp2, hk2⟩
  go_wp2_with fail
  go_end0
  exact ⟨rfl, hp2, hk1.trans hk2⟩
 ·rw [hs] at HT
  clear hs
  go_enter Tryz.func47, Tryz.ntmps47
  go_wp2_with fail
  refine HT.out.mono ?_
  rintro e w1 ⟨rfl, hp1, hk1⟩
  go_wp2_with fail
  go_end0
  exact ⟨rfl, hp1, hk1⟩
set_option maxHeartbeats 2000000 in
theorem pword_any (A : Nat → Addr) (p : Nat) (v : Value) (ts : List Lx.Tok) (s : Sx.St) (t : Lx.Bs) (w : World) (h : Par A p v ts s w) :
  Calls Tryz.prog 25 #[.pointer (some ⟨p, 0, none⟩), .string (toB t)] w fun e w' => e = .returned (.bool (Sx.takes ts 1 t s).1) ∧ Par A p v ts (Sx.takes ts 1 t s).2 w' ∧ Kept [p] w w' := by
 have HT := Yq (takes_any A p 1 (by decide) v ts s t w h)
 clear h
 go_enter Tryz.func25, Tryz.ntmps25
 go_wp2_with fail
 refine HT.out.mono ?_
 rintro e w1 ⟨rfl, hp1, hk1⟩
 go_wp2_with fail
 go_ret
 exact ⟨rfl, hp1, hk1⟩
set_option maxHeartbeats 2000000 in
theorem must_any (A : Nat → Addr) (p : Nat) (t : Lx.Bs) (v : Value) (ts : List Lx.Tok) (s : Sx.St) (w : World) (hv : Vars A w) (hG : GLt p) (h : Par A p v ts s w) :
  Calls Tryz.prog 46 #[.pointer (some ⟨p, 0, none⟩), .string (toB t)] w fun e w' => e = .returned (.tuple #[]) ∧ Par A p v ts (Sx.must ts 1 t s) w' ∧ Kept [p] w w' := by
 have HT := Yq (pword_any A p v ts s t w h)
 have Hv := Yq hv
 have Hlt := Yq h.lt
 unfold Sx.must
 unfold Sx.takes at HT
 clear h hv
 cases hs : Sx.sees ts 1 t s
 ·rw [hs] at HT
  clear hs
  go_enter Tryz.func46, Tryz.ntmps46
  go_wp2_with fail
  refine HT.out.mono ?_
  rintro e w1 ⟨rfl, hp1, hk1⟩
  have HF := Yq (fail_any A p v ts s w1 (Hv.out.kept hk1 (Nat.le_of_lt Hlt.out) hG) hp1)
  clear hp1
  go_wp2_with fail
  refine HF.out.mono ?_
  rintro e w2 ⟨rfl, hp2, hk2⟩
  go_wp2_with fail
  go_end0
  exact ⟨rfl, hp2, hk1.trans hk2⟩
 ·rw [hs] at HT
  clear hs
  go_enter Tryz.func46, Tryz.ntmps46
  go_wp2_with fail
  refine HT.out.mono ?_
  rintro e w1 ⟨rfl, hp1, hk1⟩
  go_wp2_with fail
  go_end0
  exact ⟨rfl, hp1, hk1⟩
set_option maxHeartbeats 2000000 in
set_option maxRecDepth 100000 in
theorem name_any (A : Nat → Addr) (p : Nat) (v : Value) (ts : List Lx.Tok) (s : Sx.St) (w : World) (hv : Vars A w) (h : Par A p v ts s w) :
  Calls Tryz.prog 52 #[.pointer (some ⟨p, 0, none⟩)] w fun e w' => e = .returned (.agg (tC (Sx.of ts 1 s).1).toArray) ∧ Par A p v ts (Sx.of ts 1 s).2 w' ∧ Kept [p] w w' := by
 have Hp := Yq h
 have HO := Yq (fun w0 (v0 : Vars A w0) (h0 : Par A p v ts s w0) => of_any A p 1 (by decide) v ts s w0 v0 h0)
 have Hv := Yq hv
 have Hplt := Yq h.lt
 clear h hv
 generalize Sx.of ts 1 s = r at *
 obtain ⟨x, s2⟩ := r
 simp only at HO ⊢
 go_enter Tryz.func52, Tryz.ntmps52
 go_upto_region 1 with (refine wpList_alloc_lay rfl 80 rfl zT zeroT ?_; (intro w1 g1 hg1 hB1 hb1))
 have HO1 := Yq (HO.out w1 (Hv.out.below hb1) (Hp.out.below hb1))
 have HB1 := Yq hB1; have Hb1 := Yq hb1; have Hg1 := Yq hg1
 have Np1 := Yq (show g1 ≠ p from fun e => by have := Hplt.out; omega)
 clear hB1 hb1 hg1
 go_wp2_with (first
  | (go_at_call 49; (refine HO1.out.mono ?_); rintro e w2 ⟨rfl, hp2, hk2⟩; have HP2 := Yq hp2; have HB2 := hk2.blk HB1.out (by simpa using Np1.out); have Hk2 := Yq ((Kept.of_below Hb1.out).trans hk2); clear hp2 hk2)
  | (refine wpList_store_all rfl 80 _ _ rfl g1 (tC x) rfl rfl zT HB2 infoT rfl (one_tC x) ?_; (intro w3 hB3 hgr)))
 have hend := Par.own Hp.out Hk2.out HP2.out HB2 (by decide) hgr Hg1.out
 refine bodyPost_ret (v := .agg (tC x).toArray) ?_ rfl ⟨rfl, hend.1, hend.2⟩
 exact results_blk (p := 2) (ty := 80) rfl _ _ g1 (tC x) rfl hB3 _ Tryz.underlying80 rfl infoT
structure Small (ts : List Lx.Tok) : Prop where
 few : ts.length ≤ 5000
 short : ∀ t ∈ ts, t.text.length ≤ 5000
 nums : ∀ t ∈ ts, t.num ≤ 2147483648
theorem peek_text {ts : List Lx.Tok} (h : Small ts) (s : Sx.St) : (Sx.peek ts s).text.length ≤ 5000 := by
 unfold Sx.peek
 split
 ·exact Nat.zero_le _
 ·cases hg : ts[s.pos]? with
  | none => exact Nat.zero_le _
  | some t => exact h.short t (List.mem_of_getElem? hg)
theorem of_text {ts : List Lx.Tok} (h : Small ts) (k : Nat) (s : Sx.St) : (Sx.of ts k s).1.text.length ≤ 5000 := by
 unfold Sx.of
 split
 ·exact peek_text h s
 ·exact Nat.zero_le _
theorem of_num {ts : List Lx.Tok} (h : Small ts) (k : Nat) (s : Sx.St) : (Sx.of ts k s).1.num ≤ 2147483648 := by
 unfold Sx.of
 split
 ·show (Sx.peek ts s).num ≤ _
  unfold Sx.peek
  split
  ·exact Nat.zero_le _
  ·cases hg : ts[s.pos]? with
   | none => exact Nat.zero_le _
   | some t => exact h.nums t (List.mem_of_getElem? hg)
 ·exact Nat.zero_le _
theorem sees_here {ts : List Lx.Tok} {k : Nat} {t : Lx.Bs} {s : Sx.St} (hk : k ≠ 0) (h : Sx.sees ts k t s = true) : s.err = none ∧ s.pos < ts.length := by
 unfold Sx.sees at h
 exact kind_here hk (of_decide_eq_true h).1
theorem of_goes (ts : List Lx.Tok) (k : Nat) (s : Sx.St) : (Sx.of ts k s).2.err = none → (Sx.of ts k s).2.pos = s.pos + 1 ∧ s.err = none := by
 unfold Sx.of Sx.fail
 intro h
 split at h
 ·rename_i hk
  rw [if_pos hk]; exact ⟨rfl, h⟩
 ·split at h
  ·rename_i he
   rw [h] at he; cases he
  ·cases h
theorem toB_cat (a b : Lx.Bs) : toB a ++ toB b = toB (a ++ b) := by
 apply ByteArray.ext
 apply Array.ext'
 simp [toB, ByteArray.data_append]
theorem field_text (k x a b : Int) (t : ByteArray) (w : World) : (Instr.field 80 (.agg #[.int .i64 k, .string t, .int .i64 x, .int .i64 a, .int .i64 b]) 1).run Tryz.prog w = .ok (.string t) w := by kernel_rfl
theorem name_arr (A : Nat → Addr) (p : Nat) (v : Value) (ts : List Lx.Tok) (s : Sx.St) (w : World) (hv : Vars A w) (h : Par A p v ts s w) :
  Calls Tryz.prog 52 #[.pointer (some ⟨p, 0, none⟩)] w fun e w' => e = .returned (.agg #[.int .i64 ((Sx.of ts 1 s).1.kind : Nat), .string (toB (Sx.of ts 1 s).1.text), .int .i64 ((Sx.of ts 1 s).1.num : Nat), .int .i64 ((Sx.of ts 1 s).1.line : Nat), .int .i64 ((Sx.of ts 1 s).1.col : Nat)]) ∧ Par A p v ts (Sx.of ts 1 s).2 w' ∧ Kept [p] w w' :=
 name_any A p v ts s w hv h
set_option maxHeartbeats 4000000 in
set_option maxRecDepth 100000 in
theorem dotted_any (A : Nat → Addr) (p : Nat) (v : Value) (ts : List Lx.Tok) (hS : Small ts) (s : Sx.St) (w : World) (hv : Vars A w) (hG : GLt p) (h : Par A p v ts s w) :
  Calls Tryz.prog 50 #[.pointer (some ⟨p, 0, none⟩)] w fun e w' => e = .returned (.string (toB (Sx.dotted ts s).1)) ∧ Par A p v ts (Sx.dotted ts s).2 w' ∧ Kept [p] w w' := by
 have HN := Yq (name_arr A p v ts s w hv h)
 have hfd := field_text
 have Hv := Yq hv
 have Hplt := Yq h.lt
 have HS := Yq hS
 have Hx := Yq (of_text hS 1 s)
 have hfew := hS.few
 unfold Sx.dotted
 generalize Sx.of ts 1 s = r at *
 obtain ⟨x, s1⟩ := r
 simp only at HN Hx ⊢
 clear h hv
 obtain ⟨D, hD⟩ : ∃ D, D = Sx.dots ts (ts.length + 1) x.text s1 := ⟨_, rfl⟩
 rw [← hD]
 have HD := Yq hD
 clear hD
 go_enter Tryz.func50, Tryz.ntmps50
 go_wp2_with fail
 refine HN.out.mono ?_
 rintro e w1 ⟨rfl, hp1, hk1⟩
 have HP1 := Yq hp1; have HK1 := Yq hk1
 clear hp1 hk1
 go_wp2_with fail
 go_loopg [3] (ts.length + 1) (fun n acc wr => ∃ (a : Lx.Bs) (s' : Sx.St), acc = .string (toB a) ∧ Hid (Par A p v ts s' wr) ∧ Hid (Kept [p] w wr) ∧ Hid (D = Sx.dots ts n a s') ∧ Hid (s'.err = none → ts.length + 1 ≤ s'.pos + n) ∧ a.length + n * 5001 ≤ 25100000)
 case atStart => exact ⟨x.text, s1, rfl, HP1, HK1, HD, Yq (fun _ => by omega), by have := Hx.out; omega⟩
 case round =>
  obtain ⟨a, s2, rfl, HP, HK, HDn, HF, hlen⟩ := hrel
  have HT := Yq (takes_any A p 4 (by decide) v ts s2 [46] wr HP.out)
  unfold Sx.takes at HT
  cases hs : Sx.sees ts 4 [46] s2
  ·rw [hs] at HT
   have Hend : Hid (D = (a, s2)) := Yq (by
    rw [HDn.out]
    cases gk with
    | zero => rfl
    | succ n => rw [Sx.dots, hs]; rfl)
   clear hs
   go_wp2_with fail
   refine HT.out.mono ?_
   rintro e w2 ⟨rfl, hp2, hk2⟩
   go_wp2_with fail
   go_ret
   rw [Hend.out]
   exact ⟨rfl, hp2, HK.out.trans hk2⟩
  ·rw [hs] at HT
   obtain ⟨he, hpos⟩ := sees_here (by decide) hs
   have hfuel := HF.out he
   obtain ⟨n, rfl⟩ : ∃ n, gk = n + 1 := ⟨gk - 1, by omega⟩
   have Hnx : Hid (D = Sx.dots ts n (a ++ ([46] ++ (Sx.of ts 1 s2.next).1.text)) (Sx.of ts 1 s2.next).2) := Yq (by rw [HDn.out, Sx.dots, hs]; rfl)
   have Hgo := Yq (of_goes ts 1 s2.next)
   have hx2 := of_text HS.out 1 s2.next
   have HNm := Yq (fun w0 (v0 : Vars A w0) (h0 : Par A p v ts s2.next w0) => name_arr A p v ts s2.next w0 v0 h0)
   generalize Sx.of ts 1 s2.next = r at *
   obtain ⟨y, s3⟩ := r
   simp only at HNm Hnx Hgo hx2
   clear hs HDn HF
   have hsz1 : (toB a).size ≤ 25100000 := by rw [toB_size]; omega
   have hsz2 : (toB y.text).size ≤ 5000 := by rw [toB_size]; exact hx2
   have Hcat : Hid (toB a ++ ((⟨#[46]⟩ : ByteArray) ++ toB y.text) = toB (a ++ ([46] ++ y.text))) := Yq (by
    rw [show (⟨#[46]⟩ : ByteArray) = toB [46] from rfl, toB_cat, toB_cat])
   go_wp2_with fail
   refine HT.out.mono ?_
   rintro e w2 ⟨rfl, hp2, hk2⟩
   have HK2 := Yq (HK.out.trans hk2)
   have HN2 := Yq (HNm.out w2 (Hv.out.kept HK2.out (Nat.le_of_lt Hplt.out) hG) hp2)
   clear hp2 hk2
   go_wp2_with fail
   refine HN2.out.mono ?_
   rintro e w3 ⟨rfl, hp3, hk3⟩
   have HP3 := Yq hp3; have HK3 := Yq (HK2.out.trans hk3)
   clear hp3 hk3
   go_wp2_with fail
   go_roundg n
   case measure => omega
   case rel =>
    refine ⟨a ++ ([46] ++ y.text), s3, by rw [← Hcat.out], HP3, HK3, Hnx, Yq (fun he3 => ?_), ?_⟩
    ·have := (Hgo.out he3).1
     have e2 : s2.next.pos = s2.pos + 1 := rfl
     omega
    ·simp only [List.length_append, List.length_cons, List.length_nil]; omega
theorem dots_len {ts : List Lx.Tok} (h : Small ts) : ∀ (n : Nat) (a : Lx.Bs) (s : Sx.St), (Sx.dots ts n a s).1.length ≤ a.length + n * 5001
 | 0, a, s => by rw [Sx.dots]; show a.length ≤ _; omega
 | n + 1, a, s => by
  rw [Sx.dots]
  split
  ·have h1 := dots_len h n (a ++ ([46] ++ (Sx.of ts 1 s.next).1.text)) (Sx.of ts 1 s.next).2
   have h2 := of_text h 1 s.next
   simp only [List.length_append, List.length_cons, List.length_nil] at h1
   omega
  ·show a.length ≤ _; omega
theorem dotted_len {ts : List Lx.Tok} (h : Small ts) (s : Sx.St) : (Sx.dotted ts s).1.length ≤ 25100000 := by
 have h1 := dots_len h (ts.length + 1) (Sx.of ts 1 s).1.text (Sx.of ts 1 s).2
 have h2 := of_text h 1 s
 have h3 := h.few
 unfold Sx.dotted
 omega
set_option maxHeartbeats 2000000 in
set_option maxRecDepth 100000 in
theorem typ_any (A : Nat → Addr) (p : Nat) (v : Value) (ts : List Lx.Tok) (hS : Small ts) (s : Sx.St) (w : World) (hv : Vars A w) (hG : GLt p) (h : Par A p v ts s w) :
  Calls Tryz.prog 99 #[.pointer (some ⟨p, 0, none⟩)] w fun e w' => e = .returned (.string (toB (Sx.typ ts s).1)) ∧ Par A p v ts (Sx.typ ts s).2 w' ∧ Kept [p] w w' := by
 have HT := Yq (takes_any A p 4 (by decide) v ts s [46] w h)
 have HD := Yq (fun s0 w0 (v0 : Vars A w0) (h0 : Par A p v ts s0 w0) => dotted_any A p v ts hS s0 w0 v0 hG h0)
 have Hlen := Yq (fun s0 => dotted_len hS s0)
 have Hv := Yq hv
 have Hlt := Yq h.lt
 unfold Sx.typ
 unfold Sx.takes at HT
 clear h hv
 cases hs : Sx.sees ts 4 [46] s
 ·rw [hs] at HT
  clear hs
  go_enter Tryz.func99, Tryz.ntmps99
  go_wp2_with fail
  refine HT.out.mono ?_
  rintro e w1 ⟨rfl, hp1, hk1⟩
  have HD1 := Yq (HD.out _ w1 (Hv.out.kept hk1 (Nat.le_of_lt Hlt.out) hG) hp1)
  clear hp1
  go_wp2_with fail
  refine HD1.out.mono ?_
  rintro e w2 ⟨rfl, hp2, hk2⟩
  go_wp2_with fail
  go_ret
  exact ⟨rfl, hp2, hk1.trans hk2⟩
 ·rw [hs] at HT
  have hl := Hlen.out s.next
  have HD2 := Yq (fun w0 (v0 : Vars A w0) (h0 : Par A p v ts s.next w0) => HD.out s.next w0 v0 h0)
  simp only [if_true]
  generalize Sx.dotted ts s.next = r at *
  obtain ⟨t, s2⟩ := r
  simp only at HD2 hl ⊢
  have hsz : (toB t).size ≤ 25100000 := by rw [toB_size]; exact hl
  have Hcat : Hid ((⟨#[46]⟩ : ByteArray) ++ toB t = toB ([46] ++ t)) := Yq (toB_cat [46] t)
  clear hs HD
  go_enter Tryz.func99, Tryz.ntmps99
  go_wp2_with fail
  refine HT.out.mono ?_
  rintro e w1 ⟨rfl, hp1, hk1⟩
  have HD1 := Yq (HD2.out w1 (Hv.out.kept hk1 (Nat.le_of_lt Hlt.out) hG) hp1)
  clear hp1
  go_wp2_with fail
  refine HD1.out.mono ?_
  rintro e w2 ⟨rfl, hp2, hk2⟩
  go_wp2_with fail
  go_ret
  exact ⟨congrArg (fun b => Ending.returned (.string b)) Hcat.out, hp2, hk1.trans hk2⟩
set_option maxHeartbeats 4000000 in
set_option maxRecDepth 100000 in
theorem more_any (A : Nat → Addr) (p : Nat) (v : Value) (ts : List Lx.Tok) (s : Sx.St) (w : World) (h : Par A p v ts s w) :
  Calls Tryz.prog 53 #[.pointer (some ⟨p, 0, none⟩)] w fun e w' => e = .returned (.bool (Sx.more ts s).1) ∧ Par A p v ts (Sx.more ts s).2 w' ∧ Kept [p] w w' := by
 have Hp := Yq h
 clear h
 obtain ⟨S, hS⟩ : ∃ S, S = Sx.semis ts (ts.length + 1) s := ⟨_, rfl⟩
 obtain ⟨M, hM⟩ : ∃ M, M = Sx.more ts s := ⟨_, rfl⟩
 rw [← hM]
 unfold Sx.more at hM
 rw [← hS] at hM
 have HS := Yq hS; have HM := Yq hM
 clear hS hM
 go_enter Tryz.func53, Tryz.ntmps53
 go_wp2
 go_loopg [4] (ts.length + 1) (fun n _ wr => ∃ (s' : Sx.St), Hid (Par A p v ts s' wr) ∧ Hid (Kept [p] w wr) ∧ Hid (S = Sx.semis ts n s') ∧ Hid (s'.err = none → ts.length + 1 ≤ s'.pos + n))
 case atStart => exact ⟨s, Hp, Yq (Kept.refl _ _), HS, Yq (fun _ => by omega)⟩
 case round =>
  obtain ⟨s2, HP, HK, HSn, HF⟩ := hrel
  have HT := Yq (takes_any A p 4 (by decide) v ts s2 [59] wr HP.out)
  unfold Sx.takes at HT
  cases hs : Sx.sees ts 4 [59] s2
  ·rw [hs] at HT
   have hend : S = s2 := by
    rw [HSn.out]
    cases gk with
    | zero => rfl
    | succ n => rw [Sx.semis, hs]; rfl
   subst hend
   clear hs HSn HS
   go_wp2_with fail
   refine HT.out.mono ?_
   rintro e w2 ⟨rfl, hp2, hk2⟩
   have HK2 := Yq (HK.out.trans hk2)
   have hp2 : Par A p v ts S w2 := hp2
   have HP2 := Yq hp2
   obtain ⟨ev, hB, hE, _, _⟩ := hp2
   have c2 : w2.cell? ⟨p, 2, none⟩ = some ev := hB.cell (o := 2) rfl
   clear hB hk2
   cases he : S.err with
   | some x =>
    rw [he] at hE
    obtain ⟨g, rfl, _, _⟩ := hE
    have Hend : Hid (M = (false, S)) := Yq (by rw [HM.out, if_pos (by rw [he]; rfl)])
    clear he HM
    go_wp2_with fail
    go_ret
    rw [Hend.out]
    exact ⟨rfl, HP2.out, HK2.out⟩
   | none =>
    rw [he] at hE
    have hE : ev = .nilIface := hE
    subst hE
    have HM2 : Hid (M = if Sx.sees ts 4 [125] S then (false, S.next) else (true, S)) := Yq (by rw [HM.out, if_neg (by rw [he]; decide)])
    clear HM
    have HT2 := Yq (takes_any A p 4 (by decide) v ts S [125] w2 HP2.out)
    unfold Sx.takes at HT2
    clear he
    cases hs2 : Sx.sees ts 4 [125] S
    all_goals
     rw [hs2] at HT2 HM2
     clear hs2
     go_wp2_with fail
     refine HT2.out.mono ?_
     rintro e w3 ⟨rfl, hp3, hk3⟩
     go_wp2_with fail
     go_ret
     rw [HM2.out]
     exact ⟨rfl, hp3, HK2.out.trans hk3⟩
  ·rw [hs] at HT
   obtain ⟨he, hpos⟩ := sees_here (by decide) hs
   have hfuel := HF.out he
   obtain ⟨n, rfl⟩ : ∃ n, gk = n + 1 := ⟨gk - 1, by omega⟩
   have Hnx : Hid (S = Sx.semis ts n s2.next) := Yq (by rw [HSn.out, Sx.semis, hs]; rfl)
   clear hs HSn HF
   go_wp2_with fail
   refine HT.out.mono ?_
   rintro e w2 ⟨rfl, hp2, hk2⟩
   have HP2 := Yq hp2; have HK2 := Yq (HK.out.trans hk2)
   clear hp2 hk2
   go_wp2_with fail
   go_roundg n
   case measure => omega
   case rel =>
    refine ⟨s2.next, HP2, HK2, Hnx, Yq (fun he3 => ?_)⟩
    have e2 : s2.next.pos = s2.pos + 1 := rfl
    omega
end Go.Proofs.YtpcfdngnmigkfaaGreatDoor
