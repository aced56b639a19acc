/- schema.Sorted: the places of the fields by rising numbers (sortedF). At most 2^39 fields. slices.Grow of nil, slices.Concat of two lists of ways; mask.Union. At most 2^40 ways. mask.Meet. darningref13: less, Of, Under. At most 2^40 ways. darningref13.Under; darninglaw13.Many. -/
import Derived.Test.YtfimpmennkfjcaaGreatDoorZ05
import Derived.Test.YtfimpmennkfjcaaGreatDoorZ16
import Derived.Test.YtfimpmennkfjcaaGreatDoorZ28
import Derived.Test.YtfimpmennkfjcaaGreatDoorZ35
import Derived.Lib.AppendZerosOnto
namespace Go.Proofs.YtfimpmennkfjcaaGreatDoor
open Go.RowKit
def cmpN (fs:List Fld) (x y:Int):Int:=if numAt fs x < numAt fs y then -1 else if numAt fs y < numAt fs x then 1 else 0
theorem agree_cmpN {fs:List Fld} {x y:Int} (h:x < y):Agree (cmpN fs) (Ahead fs) x y:=by
 unfold Agree cmpN Ahead
 constructor
 ·
  constructor
  ·
   intro h1
   split at h1
   ·
    rename_i h2;exact .inl h2
   ·
    split at h1 <;> omega
  ·
   intro h1
   rw [if_pos (by omega)];decide
 ·
  omega
set_option maxRecDepth 100000 in
set_option maxHeartbeats 4000000 in
theorem schema_Sorted_1 {w:World} {q:Nat} {_nm:ByteArray} {v:Value} {fs:List Fld} (h0:w.cell? ⟨q,1,none⟩ = some v) (h:FieldsAt w v fs) (x y:Int) (hx:0 ≤ x ∧ x < fs.length) (hy:0 ≤ y ∧ y < fs.length) :
  Calls Tryz.prog 113 #[.int .i64 x,.int .i64 y,.pointer (some ⟨q,0,none⟩)] w fun e w' => e = .returned (.int .i64 (cmpN fs x y)) ∧ Below w.heap.size w w':=by
 obtain ⟨i,rfl⟩:∃ i:Nat,x = i:=⟨x.toNat,by omega⟩
 obtain ⟨j,rfl⟩:∃ j:Nat,y = j:=⟨y.toNat,by omega⟩
 obtain ⟨hlen,a,cap,rfl,hat⟩:=h.open
 obtain ⟨n,HN⟩:∃ n,Hid (n = fs.length):=⟨_,rfl⟩
 rw [← HN.out] at hat hlen h0 hx hy
 have hin:i < n:=by omega
 have hjn:j < n:=by omega
 obtain ⟨b,o,ha,-,-,g1,-,-,-,-⟩:=hat i hin
 obtain ⟨b2,o2,ha2,-,-,g2,-,-,-,-⟩:=hat j hjn
 have hix:=index_run Tryz.underlying65 size_fld ha i hin (cap:=cap)
 have hix2:=index_run Tryz.underlying65 size_fld ha2 j hjn (cap:=cap)
 have HZ:Hid (cmpN fs (i:Int) (j:Int) = if (fs.getD i .zero).number < (fs.getD j .zero).number then -1 else if (fs.getD j .zero).number < (fs.getD i .zero).number then 1 else 0):=rfl
 obtain ⟨p,HP⟩:∃ p,Hid (p = (fs.getD i .zero).number):=⟨_,rfl⟩
 obtain ⟨r,HR⟩:∃ r,Hid (r = (fs.getD j .zero).number):=⟨_,rfl⟩
 rw [← HP.out] at g1 HZ
 rw [← HR.out] at g2 HZ
 obtain ⟨z,HZZ⟩:∃ z,Hid (z = cmpN fs (i:Int) (j:Int)):=⟨_,rfl⟩
 have HC:=hid (cmp_Compare_int p r w.drew)
 rw [← HZ.out,← HZZ.out] at HC
 rw [← HZZ.out]
 clear hat ha ha2 hx hy h HZ
 go_enter Tryz.func113,Tryz.ntmps113
 go_wp2_with fail
 go_still_tail 12,(by kernel_rfl)
 change wpList _ _ _ _ _ w.drew
 go_wp2_with fail
 refine HC.out.mono ?_
 rintro e w1 ⟨rfl,rfl⟩
 go_wp2_with fail
 go_ret
 exact ⟨rfl,(Below.refl _ _).drew⟩
def SortedPost (w:World) (l:List Int) (e:Ending) (w':World):Prop:=
 ∃ a c,e = .returned (.slice a l.length c) ∧ (l = [] ∨ ∃ g,a = some ⟨g,0,none⟩ ∧ w.heap.size ≤ g ∧ IRow w' g l) ∧ Below w.heap.size w w'
theorem irow_of_own {w:World} {base n c g:Nat} {l:List Int} (h:IntsOwn w base (.slice (some ⟨g,0,none⟩) n c) l) (hn:n = l.length):IRow w g l ∧ base ≤ g:=by
 rcases h.2 with ⟨h1,-⟩ | ⟨g',cap,cur,hv,hb,hg,hnc,hcm,hcs,ht⟩
 ·
  cases h1
 ·
  cases hv
  refine ⟨⟨cur,hg,by omega,?_⟩,hb⟩
  simpa using ht
set_option maxRecDepth 100000 in
set_option maxHeartbeats 8000000 in
theorem schema_Sorted {w:World} {v:Value} {fs:List Fld} (nm:ByteArray) (h:FieldsAt w v fs) (hl:fs.length ≤ 549755813888) :
  Calls Tryz.prog 86 #[.agg #[.string nm,v]] w (SortedPost w (sortedF fs)):=by
 have HF:=hid h
 obtain ⟨-,a,cap,rfl,-⟩:=h.open
 obtain ⟨n,HN⟩:∃ n,Hid (n = fs.length):=⟨_,rfl⟩
 rw [← HN.out] at hl HF ⊢
 obtain ⟨w1,HW1⟩:∃ w1,Hid (w1 = w.alloc (.cells #[.string nm,.slice a n cap] 67)):=⟨_,rfl⟩
 have hb1:Below w.heap.size w w1:=by rw [HW1.out];(repeat (first | with_reducible exact Below.refl _ _ | with_reducible refine Below.setCell ?_ (by first | omega | (simp;omega) | (simp;done)) _ | with_reducible refine Below.alloc ?_ (by first | omega | (simp;omega) | (simp;done)) _ | with_reducible refine below_drewN ?_ _ | with_reducible refine Below.drew ?_))
 have hbx:Blk w1 w.heap.size [.string nm,.slice a n cap] 67:=by rw [HW1.out];exact Blk.new w [.string nm,.slice a n cap] _
 have HB1:=hid hb1
 have HBX:=hid hbx
 have hsz1:Hid (w1.heap.size = w.heap.size + 1):=by rw [Hid,HW1.out];simp
 have c1:=hbx.cell 1 _ rfl
 have HCMP:Hid (∀ (g:Nat) (wq:World),w1.heap.size ≤ g → Below w1.heap.size w1 wq → CmpI 113 #[.pointer (some ⟨w.heap.size,0,none⟩)] (cmpN fs) wq g (upTo n)):=by
  intro g wq hg hbq x y wr hx hy hgr
  have hk:∀ b,b < w1.heap.size → wr.heap[b]? = w1.heap[b]?:=fun b hb => (hgr.block b (Nat.lt_of_lt_of_le hb hbq.size) (fun e => by cases e;omega)).trans (hbq.block b hb)
  have hc:∀ p u,w1.cell? p = some u → wr.cell? p = some u:=fun p u hu => (World.cell?_of_block (hk _ (World.block_lt_of_cell? w1 p hu))).trans hu
  refine schema_Sorted_1 (_nm:=nm) (hc _ _ (HBX.out.cell 1 _ rfl)) ((HF.out.below HB1.out).keep hc) x y ?_ ?_
  ·
   have:=upTo_mem.1 hx;rw [HN.out] at this;exact this
  ·
   have:=upTo_mem.1 hy;rw [HN.out] at this;exact this
 obtain ⟨Q,HQ⟩:∃ Q:Ending → World → Prop,Hid (Q = SortedPost w (sortedF fs)):=⟨_,rfl⟩
 rw [← HQ.out]
 clear h hb1 hbx
 go_enter Tryz.func86,Tryz.ntmps86
 go_wp2_with fail
 rw [← HW1.out]
 go_loopw [3,8] (fun v3 v8 wr => ∃ i:Nat,v8 = .int .i64 (i:Int) ∧ i ≤ n ∧ Hid (IntsOwn wr w1.heap.size v3 (upTo i) ∧ Below w1.heap.size w1 wr)) (fun _ v8 _ => n - (intOf v8).toNat)
 case atStart => exact ⟨0,rfl,by omega,World.ownsRow_nil _ _ _ _,Below.refl _ _⟩
 case round =>
  obtain ⟨i,rfl,hi,HI⟩:=hrel
  obtain ⟨oa,oc,hoe⟩:=HI.out.1.form
  rw [upTo_len] at hoe
  subst hoe
  by_cases hlt:i < n
  ·
   have hs0:=HI.out.2.size
   go_wp2_with (at_builtin;refine wpList_append_int rfl _ _ rfl rfl _ (i:Int) _ rfl rfl rfl ?c0 w1.heap.size (upTo i) ?c1 ?c2 ?c3 ?c4 ?_)
   case c0 => simp
   case c1 => exact HI.out.1
   case c2 => constructor <;> omega
   case c3 => rw [upTo_len];omega
   case c4 => exact hs0
   intro a' c' w5 hO5 hB5 hK5
   have hB5':=hB5 w1 HI.out.2
   rw [upTo_len] at hO5 ⊢
   rw [← upTo_succ] at hO5
   have HO5:=hid hO5
   have HB5:=hid hB5'
   clear hO5 hB5 hK5 hB5' hs0
   go_wp2_with fail
   go_roundw
   case rel => exact ⟨i + 1,by go_num,hlt,HO5.out,HB5.out⟩
   case measure => simp [intOf];omega
  ·
   obtain rfl:i = n:=by omega
   by_cases h0:i = 0
   ·
    have HE:Hid (sortedF fs = []):=List.eq_nil_of_length_eq_zero (by rw [sortedF_len,← HN.out];exact h0)
    have HBW:Hid (Below w.heap.size w wr):=HB1.out.trans (HI.out.2.mono HB1.out.size)
    subst h0
    go_wp2_with fail
    refine (sortStable_nil _ _ _ _).mono ?_
    rintro e w5 ⟨rfl,rfl⟩
    go_wp2_with fail
    rw [HQ.out]
    exact ⟨oa,oc,by rw [HE.out];rfl,.inl HE.out,HBW.out⟩
   ·
    obtain ⟨g,rfl⟩:∃ g,oa = some ⟨g,0,none⟩:=by
     rcases HI.out.1.2 with ⟨h1,h2⟩ | ⟨g',cap,cur,hv,-⟩
     ·
      exact absurd h2 (by rw [upTo_len];exact h0)
     ·
      exact ⟨g',(Value.slice.inj hv).1⟩
    obtain ⟨hir,hg⟩:=irow_of_own HI.out.1 (upTo_len i).symm
    have hA:(upTo i).Pairwise (Agree (cmpN fs) (Ahead fs)):=(upTo_sorted fs i).imp agree_cmpN
    have hst:=sortStable_int (c:=oc) (upTo_len i).symm (by omega) 113 #[.pointer (some ⟨w.heap.size,0,none⟩)] (cmpN fs) (fun args w => by simp [go_sem]) (HCMP.out g wr hg HI.out.2) Ahead.trans hA hir (World.grownBy.refl wr _)
    have HST:=hid hst
    have HGG:=hid hg
    clear hst hA hir
    go_wp2_with fail
    refine HST.out.mono ?_
    rintro e w5 ⟨rfl,Z,h1,h2,h3,h4⟩
    have HZE:Hid (Z = sortedF fs):=sortedF_unique (by rw [← HN.out];exact h1) h2
    have HB5:Hid (Below w.heap.size w w5):=HB1.out.trans ((HI.out.2.grown h4 HI.out.2.size (by intro q e;cases e;exact hg)).mono HB1.out.size)
    have HR5:=hid h3
    clear h1 h2 h3 h4 hg
    go_wp2_with fail
    rw [HQ.out]
    have h5:=HR5.out
    rw [HZE.out,List.nil_append,List.append_nil] at h5
    refine ⟨some ⟨g,0,none⟩,oc,by rw [sortedF_len,← HN.out];rfl,.inr ⟨g,rfl,?_,h5⟩,HB5.out⟩
    exact Nat.le_trans HB1.out.size HGG.out
end Go.Proofs.YtfimpmennkfjcaaGreatDoor
namespace Go.Proofs.YtfimpmennkfjcaaGreatDoor
open Go.RowKit
end Go.Proofs.YtfimpmennkfjcaaGreatDoor
namespace Go.Proofs.YtfimpmennkfjcaaGreatDoor
open Go.RowKit
end Go.Proofs.YtfimpmennkfjcaaGreatDoor
namespace Go.Proofs.YtfimpmennkfjcaaGreatDoor
open Go.RowKit
theorem row_mono {w:World} {base base' size n:Nat} {e:TypeId} {v:Value} {xs:List Value} (h:w.ownsRow base e size v n xs) (hb:base' ≤ base):w.ownsRow base' e size v n xs:=by
 refine ⟨h.1,?_⟩
 rcases h.2 with h2 | ⟨g,cap,cur,hv,hg,h3⟩
 ·
  exact .inl h2
 ·
  exact .inr ⟨g,cap,cur,hv,by omega,h3⟩
end Go.Proofs.YtfimpmennkfjcaaGreatDoor
namespace Go.Proofs.YtfimpmennkfjcaaGreatDoor
open Go.RowKit
end Go.Proofs.YtfimpmennkfjcaaGreatDoor
