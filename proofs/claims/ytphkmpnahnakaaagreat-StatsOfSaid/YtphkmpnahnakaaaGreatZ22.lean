/- Parts of a proof: texts of the author, merged. No condition of their own. -/
import Derived.Test.YtphkmpnahnakaaaGreatZ09
import Derived.Test.YtphkmpnahnakaaaGreatZ10
import Derived.Test.YtphkmpnahnakaaaGreatZ15
import Derived.Test.YtphkmpnahnakaaaGreatZ16
import Derived.Test.YtphkmpnahnakaaaGreatZ20
import Derived.RangeFuncNested
import Derived.RangeFuncBound
import Derived.RangeFuncCalls
import Derived.RangeFuncLeaves
import Derived.Shelf.RegionOpen
namespace Go.Proofs.YtphkmpnahnakaaaGreat
open Go.RowKit
structure SR where
 path:ByteArray
 recs:Nat
 bytes:Nat
 vals:Nat
def emptyS:ByteArray:=⟨#[]⟩
def rowS (t:List SE) (p:ByteArray):SR:=⟨p,cntE t p,bytE t p,valE t p⟩
def rowsS (t:List SE) (ks:List ByteArray) (n:Nat):List SR:=⟨emptyS,t.length,n,n⟩ :: ks.map (rowS t)
structure KeysOf (t:List SE) (ks:List ByteArray):Prop where
 nd:ks.Nodup
 mem:∀ p,p ∈ ks ↔ ∃ e ∈ t,e.path = p
theorem nodup_le {α:Type} [DecidableEq α]:∀ {a b:List α},a.Nodup → (∀ x ∈ a,x ∈ b) → a.length ≤ b.length
 | [],_,_,_ => by simp
 | x :: r,b,h,hb => by
  rw [List.nodup_cons] at h
  have hx:=hb x (by simp)
  have:=nodup_le (a:=r) (b:=b.erase x) h.2 fun y hy => (List.mem_erase_of_ne (fun e:y = x => h.1 (e ▸ hy))).2 (hb y (by simp [hy]))
  rw [List.length_erase_of_mem hx] at this
  have:0 < b.length:=List.length_pos_of_mem hx
  rw [List.length_cons]
  omega
theorem sright_nameS {s:List Mes} (h:sright s = true) (m:Nat) (hm:m < s.length) (f:Fld) (hf:f ∈ (s.getD m .zero).fields):nameOk f.name = true:=by
 have h0:(scheck s).2.2 = 0:=of_decide_eq_true h
 unfold scheck at h0
 by_cases h1:s.length = 0 ∨ 100 < s.length
 ·
  rw [if_pos h1] at h0;simp at h0
 rw [if_neg h1] at h0
 have hmem:s.getD m .zero ∈ s:=by
  have:s.getD m .zero = s[m]:=by simp [List.getD,hm]
  rw [this];exact List.getElem_mem hm
 obtain ⟨h2,-,-⟩:=scheckGo_ok s [] 0 h0 _ hmem
 obtain ⟨nm,nu,h3⟩:=fieldsFault_none _ _ _ h2 f hf
 exact (fieldFault_ok h3).1
theorem nameOk_size {n:ByteArray} (h:nameOk n = true):1 ≤ n.size ∧ n.size ≤ 60:=by
 unfold nameOk at h
 rw [Bool.and_eq_true] at h
 exact of_decide_eq_true h.2
theorem getD_memS {α:Type} (l:List α) (k:Nat) (z:α) (h:k < l.length):l.getD k z ∈ l:=by
 have:l.getD k z = l[k]:=by simp [List.getD,h]
 rw [this];exact List.getElem_mem h
theorem nameOf_size {s:List Mes} (hs:sright s = true) {d m:Nat} {l:List UInt8} {x:VW} (hm:m < s.length) (hx:ViewOk s d m l x):1 ≤ (nameOf (s.getD m .zero).fields x.k).size ∧ (nameOf (s.getD m .zero).fields x.k).size ≤ 60:=by
 obtain ⟨-,-,-,h⟩:=hx.facts
 rcases h with ⟨h,-⟩ | ⟨k,h1,h2,-⟩
 ·
  rw [h]
  unfold nameOf
  rw [if_pos (by decide)]
  decide
 ·
  unfold nameOf
  rw [h1,if_neg (by omega),Int.toNat_natCast]
  exact nameOk_size (sright_nameS hs m hm _ (getD_memS _ _ _ h2))
end Go.Proofs.YtphkmpnahnakaaaGreat
namespace Go.Proofs.YtphkmpnahnakaaaGreat
open Go.RowKit
def padD (ds:List Int) (k:Nat):List Int:=ds ++ List.replicate (k + 1 - ds.length) 0
def bumpD (ds:List Int) (k:Nat):List Int:=(padD ds k).set k ((padD ds k).getD k 0 + 1)
def subD (sub:Int → List UInt8 → List Int → List Int) (fs:List Fld) (ds:List Int) (x:AR):List Int:=
 if 0 ≤ x.k ∧ (fs.getD x.k.toNat .zero).kind = 17 then sub (fs.getD x.k.toNat .zero).of x.val ds else ds
def dmsg (s:List Mes):Nat → Int → List UInt8 → Nat → List Int → List Int
 | 0,_,_,_,ds => ds
 | d + 1,m,l,k,ds => (arecs (s.getD m.toNat .zero).fields l).foldl (subD (fun o v ds => dmsg s d o v (k + 1) ds) (s.getD m.toNat .zero).fields) (bumpD ds k)
def evV (s:List Mes) (d:Nat) (fs:List Fld) (l:List UInt8) (p:ByteArray) (x:VW):List SE:=evA (evsub s d) fs p (arOf l x)
def dvV (s:List Mes) (d:Nat) (fs:List Fld) (l:List UInt8) (k:Nat) (ds:List Int) (x:VW):List Int:=subD (fun o v ds => dmsg s d o v (k + 1) ds) fs ds (arOf l x)
theorem evsub_views (s:List Mes) (d m:Nat) (l:List UInt8) (p:ByteArray):evsub s (d + 1) (m:Int) l p = (vall (s.getD m .zero).fields l).1.flatMap (evV s d (s.getD m .zero).fields l p):=by
 rw [evsub,Int.toNat_natCast]
 unfold arecs
 rw [List.flatMap_map]
 rfl
theorem dmsg_views (s:List Mes) (d m:Nat) (l:List UInt8) (k:Nat) (ds:List Int):dmsg s (d + 1) (m:Int) l k ds = (vall (s.getD m .zero).fields l).1.foldl (dvV s d (s.getD m .zero).fields l k) (bumpD ds k):=by
 rw [dmsg,Int.toNat_natCast]
 unfold arecs
 rw [List.foldl_map]
 rfl
theorem evV_none {s:List Mes} {d:Nat} {fs:List Fld} {l:List UInt8} {p:ByteArray} {x:VW} (h:¬ (0 ≤ x.k ∧ (fs.getD x.k.toNat .zero).kind = 17)) (k:Nat) (ds:List Int) :
  evV s d fs l p x = [⟨underS p (nameOf fs x.k),(part l x.r.start x.r.to).length,(part l x.r.at' x.r.to).length⟩] ∧ dvV s d fs l k ds x = ds:=by
 unfold evV dvV evA subD
 have h':¬ (0 ≤ (arOf l x).k ∧ (fs.getD (arOf l x).k.toNat .zero).kind = 17):=h
 rw [if_neg h',if_neg h']
 exact ⟨rfl,rfl⟩
theorem evV_sub {s:List Mes} {d:Nat} {fs:List Fld} {l:List UInt8} {p:ByteArray} {x:VW} (h:0 ≤ x.k ∧ (fs.getD x.k.toNat .zero).kind = 17) (k:Nat) (ds:List Int) :
  evV s d fs l p x = ⟨underS p (nameOf fs x.k),(part l x.r.start x.r.to).length,(part l x.r.at' x.r.to).length⟩ :: evsub s d (fs.getD x.k.toNat .zero).of (part l x.r.at' x.r.to) (underS p (nameOf fs x.k)) ∧
  dvV s d fs l k ds x = dmsg s d (fs.getD x.k.toNat .zero).of (part l x.r.at' x.r.to) (k + 1) ds:=by
 unfold evV dvV evA subD
 have h':0 ≤ (arOf l x).k ∧ (fs.getD (arOf l x).k.toNat .zero).kind = 17:=h
 rw [if_pos h',if_pos h']
 exact ⟨rfl,rfl⟩
theorem padD_len (ds:List Int) (k:Nat):(padD ds k).length = max ds.length (k + 1):=by unfold padD;rw [List.length_append,List.length_replicate];omega
theorem bumpD_len (ds:List Int) (k:Nat):(bumpD ds k).length = max ds.length (k + 1):=by unfold bumpD;rw [List.length_set,padD_len]
theorem padD_mem {ds:List Int} {k:Nat} {B:Int} (hB:0 ≤ B) (h:∀ x ∈ ds,0 ≤ x ∧ x ≤ B):∀ x ∈ padD ds k,0 ≤ x ∧ x ≤ B:=by
 intro x hx
 rcases List.mem_append.1 hx with hx | hx
 ·
  exact h x hx
 ·
  rw [List.mem_replicate] at hx
  omega
theorem bumpD_mem {ds:List Int} {k:Nat} {B:Int} (hB:0 ≤ B) (h:∀ x ∈ ds,0 ≤ x ∧ x ≤ B):∀ x ∈ bumpD ds k,0 ≤ x ∧ x ≤ B + 1:=by
 intro x hx
 have hp:=padD_mem (k:=k) hB h
 rcases List.mem_or_eq_of_mem_set hx with hx | hx
 ·
  have:=hp x hx;omega
 ·
  have hk:k < (padD ds k).length:=by rw [padD_len];omega
  have:=hp _ (getD_memS (padD ds k) k 0 hk)
  omega
theorem bumpD_low {ds:List Int} {k i:Nat} (hi:i < k) (hk:k ≤ ds.length):(bumpD ds k)[i]? = ds[i]?:=by
 unfold bumpD padD
 rw [List.getElem?_set_ne (by omega),List.getElem?_append_left (by omega)]
theorem foldl_low {α:Type} (f:List Int → α → List Int) (k:Nat) (h:∀ ds x,k ≤ ds.length → k ≤ (f ds x).length ∧ ∀ i,i < k → (f ds x)[i]? = ds[i]?):∀ (l:List α) (ds:List Int),k ≤ ds.length → k ≤ (l.foldl f ds).length ∧ ∀ i,i < k → (l.foldl f ds)[i]? = ds[i]?
 | [],ds,hk => ⟨hk,fun _ _ => rfl⟩
 | x :: r,ds,hk => by
  obtain ⟨h1,h2⟩:=h ds x hk
  obtain ⟨h3,h4⟩:=foldl_low f k h r (f ds x) h1
  exact ⟨h3,fun i hi => (h4 i hi).trans (h2 i hi)⟩
theorem dmsg_low (s:List Mes):∀ (d:Nat) (m:Int) (l:List UInt8) (k:Nat) (ds:List Int),k ≤ ds.length → k ≤ (dmsg s d m l k ds).length ∧ ∀ i,i < k → (dmsg s d m l k ds)[i]? = ds[i]?
 | 0,_,_,_,_,hk => ⟨hk,fun _ _ => rfl⟩
 | d + 1,m,l,k,ds,hk => by
  rw [dmsg]
  have h0:k + 1 ≤ (bumpD ds k).length:=by rw [bumpD_len];omega
  obtain ⟨h1,h2⟩:=foldl_low (subD (fun o v ds => dmsg s d o v (k + 1) ds) (s.getD m.toNat .zero).fields) (k + 1) (fun ds x hx => by
   unfold subD
   split
   ·
    exact dmsg_low s d _ _ (k + 1) ds hx
   ·
    exact ⟨hx,fun _ _ => rfl⟩) (arecs (s.getD m.toNat .zero).fields l) (bumpD ds k) h0
  exact ⟨by omega,fun i hi => (h2 i (by omega)).trans (bumpD_low hi hk)⟩
theorem dfold_low (s:List Mes) (d:Nat) (fs:List Fld) (l:List UInt8) (k:Nat) (xs:List VW) (ds:List Int) (h:k + 1 ≤ ds.length):k + 1 ≤ (xs.foldl (dvV s d fs l k) ds).length:=
 (foldl_low (dvV s d fs l k) (k + 1) (fun ds x hx => by
  unfold dvV subD
  split
  ·
   exact dmsg_low s d _ _ (k + 1) ds hx
  ·
   exact ⟨hx,fun _ _ => rfl⟩) xs ds h).1
end Go.Proofs.YtphkmpnahnakaaaGreat
namespace Go.Proofs.YtphkmpnahnakaaaGreat
open Go.RowKit
def viewP (_:World) (r:List Value) (x:VW):Prop:=r = x.cells
def AllPost (w:World) (T:TypeId) (k:Nat → Value) (x:List VW × Nat × Nat) (e:Ending) (w':World):Prop:=
 ∃ v' base,e = .returned (.tuple #[v',.int .i64 (x.2.1:Nat),k x.2.2]) ∧ w.heap.size ≤ base ∧ RowsOwn viewP T 7 0 base w' v' x.1 ∧ Below w.heap.size w w'
theorem info_view:(Tryz.prog.info? 109).map (fun i => (i.zero,i.size,i.bytes)) = some (some (.agg #[.int .i64 0,.int .i64 0,.int .i64 0,.int .i64 0,.int .i64 0,.int .i64 0,.bool false]),7,56):=by kernel_rfl
set_option maxRecDepth 100000 in
set_option maxHeartbeats 8000000 in
theorem view_All {w:World} {v vf:Value} {l:List UInt8} {fs:List Fld} (h:Bytes w v l) (hl:l.length ≤ 1099511627776) (hf:FieldsAt w vf fs) (nm:ByteArray) :
  Calls Tryz.prog 43 #[.agg #[.string nm,vf],v] w (AllPost w 109 (fun c => .int .u8 (c:Int)) (vall fs l)):=by
 have HLL:=hid hl
 obtain ⟨hlen,a,cap,rfl,-,-,-,-⟩:=h.open
 obtain ⟨-,fa,fc,rfl,-⟩:=hf.open
 obtain ⟨n,HN⟩:∃ n,Hid (n = l.length):=⟨_,rfl⟩
 obtain ⟨fn,HFN⟩:∃ n,Hid (n = fs.length):=⟨_,rfl⟩
 rw [← HN.out] at hlen HLL hl h ⊢
 rw [← HFN.out] at hf ⊢
 obtain ⟨w1,HW1⟩:∃ w1,Hid (w1 = w.alloc (.cells #[.string nm,.slice fa fn fc] 51)):=⟨_,rfl⟩
 have hb1:Below w.heap.size w w1:=by rw [HW1.out];(repeat (first | with_reducible exact Below.refl _ _ | with_reducible refine Below.setCell ?_ (by first | omega | (simp;omega) | (simp;done)) _ | with_reducible refine Below.alloc ?_ (by first | omega | (simp;omega) | (simp;done)) _ | with_reducible refine below_drewN ?_ _ | with_reducible refine Below.drew ?_))
 have hbx:Blk w1 w.heap.size [.string nm,.slice fa fn fc] 51:=by rw [HW1.out];exact Blk.new w [.string nm,.slice fa fn fc] _
 have HB1:=hid hb1
 have HBX:=hid hbx
 have HV:=hid (h.below hb1)
 have HF:=hid (hf.below hb1)
 obtain ⟨Q,HQ⟩:∃ Q:Ending → World → Prop,Hid (Q = AllPost w 109 (fun c => .int .u8 (c:Int)) (vall fs l)):=⟨_,rfl⟩
 rw [← HQ.out]
 clear h hf hb1 hbx
 go_enter Tryz.func43,Tryz.ntmps43
 go_wp2_with fail
 rw [← HW1.out]
 go_loopw [7,8,9,10] (fun v7 v8 _ _ wr => ∃ (pre:List VW) (oa:Option Addr) (m oc at':Nat),v7 = .slice oa m oc ∧ v8 = .int .i64 at' ∧ at' ≤ n ∧ m ≤ at' ∧ Hid (m = pre.length ∧ (∃ fuel,n - at' ≤ fuel ∧ vall fs l = glueV pre (vallGo fs l fuel at')) ∧ Below w1.heap.size w1 wr ∧ RowsOwn viewP 109 7 0 w1.heap.size wr (.slice oa m oc) pre)) (fun _ v8 _ _ _ => n - (intOf v8).toNat)
 case atStart => exact ⟨[],none,0,0,0,rfl,rfl,by omega,by omega,rfl,⟨l.length,by have:=HN.out;omega,by rw [glueV_nil];rfl⟩,Below.refl _ _,RowsOwn.nil _ _ _ _ _ _⟩
 case round =>
  obtain ⟨pre,oa,m,oc,at',rfl,rfl,hat,hmat,HI⟩:=hrel
  have hbx:=HBX.out.below HI.out.2.2.1
  have c0:=hbx.cell 0 _ rfl
  have c1:=hbx.cell 1 _ rfl
  have hsz:=hbx.lt
  have HBW:Hid (Below w.heap.size w wr):=HB1.out.trans (HI.out.2.2.1.mono HB1.out.size)
  clear hbx
  by_cases hlt:at' < n
  ·
   obtain ⟨r,k,run,c,HR⟩:∃ r k run c,Hid (vlook fs l at' = (r,k,run,c)):=⟨_,_,_,_,rfl⟩
   have hlk:=view_Look (HV.out.below HI.out.2.2.1) (HF.out.below HI.out.2.2.1) nm at' (by omega)
   rw [HR.out] at hlk
   have HLK:=hid hlk
   obtain ⟨rn,rw',rs,ra,rt⟩:=r
   simp only [viewV] at HLK
   clear hlk
   by_cases hc:c = 0
   ·
    subst hc
    have hok:at' < rt ∧ rt ≤ n:=by
     have:=vlook_ok (fs:=fs) (l:=l) (i:=at') (by rw [HR.out])
     rw [HR.out,← HN.out] at this
     exact ⟨this.2.1,this.2.2.1⟩
    have HST:Hid (∃ fuel,n - rt ≤ fuel ∧ vall fs l = glueV (pre ++ [⟨⟨rn,rw',rs,ra,rt⟩,k,run⟩]) (vallGo fs l fuel rt)):=by
     obtain ⟨fuel,h1,h2⟩:=HI.out.2.1
     obtain ⟨f',rfl⟩:∃ f',fuel = f' + 1:=⟨fuel - 1,by omega⟩
     exact ⟨f',by omega,by rw [h2,glueV_step (by rw [← HN.out];exact hlt) HR.out]⟩
    go_wp2_with fail
    refine HLK.out.mono ?_
    rintro e w2 ⟨rfl,hb1⟩
    have hb2:=hb1.alloc hb1.size (.cells #[.int .i64 rn,.int .i64 rw',.int .i64 rs,.int .i64 ra,.int .i64 rt,.int .i64 k,.bool run] 109)
    have hk2:=Blk.new w2 [.int .i64 rn,.int .i64 rw',.int .i64 rs,.int .i64 ra,.int .i64 rt,.int .i64 k,.bool run] 109
    have hX:wr.heap.size ≤ w2.heap.size:=hb1.size
    go_wp2_with fail
    generalize hW2:w2.alloc (.cells #[.int .i64 rn,.int .i64 rw',.int .i64 rs,.int .i64 ra,.int .i64 rt,.int .i64 k,.bool run] 109) = W2 at *
    clear hW2
    generalize w2.heap.size = X at *
    clear hb1 c0 c1 hsz
    obtain ⟨a5,c5,w5,hr5,hO5,hB4,hB5,hk5⟩:=RowsOwn.step2 HI.out.2.2.2 hb2.drew (by decide) (by omega) HI.out.2.2.1.size HI.out.1.symm 104 _ 56 Tryz.underlying104 info_view rfl #[.int .i64 rn,.int .i64 rw',.int .i64 rs,.int .i64 ra,.int .i64 rt,.int .i64 k,.bool run] rfl (by intro u hu;simp at hu;rcases hu with rfl | rfl | rfl | rfl | rfl | rfl | rfl <;> rfl) ⟨⟨rn,rw',rs,ra,rt⟩,k,run⟩ (fun _ _ => rfl) (by have:=HLL.out;omega) (by decide)
    have hkd:Blk W2.drew X [.int .i64 rn,.int .i64 rw',.int .i64 rs,.int .i64 ra,.int .i64 rt,.int .i64 k,.bool run] 109:=hk2
    have hke:Blk (W2.alloc (.cells #[.int .i64 rn,.int .i64 rw',.int .i64 rs,.int .i64 ra,.int .i64 rt,.int .i64 k,.bool run] 109)).drew X [.int .i64 rn,.int .i64 rw',.int .i64 rs,.int .i64 ra,.int .i64 rt,.int .i64 k,.bool run] 109:=hkd.alloc (.cells #[.int .i64 rn,.int .i64 rw',.int .i64 rs,.int .i64 ra,.int .i64 rt,.int .i64 k,.bool run] 109)
    have hkf:Blk w5 X [.int .i64 rn,.int .i64 rw',.int .i64 rs,.int .i64 ra,.int .i64 rt,.int .i64 k,.bool run] 109:=(hk5 X hX hk2.lt).trans hkd
    have k0:=And.intro (hkd.cell 0 _ rfl) (And.intro (hkd.cell 1 _ rfl) (And.intro (hkd.cell 2 _ rfl) (And.intro (hkd.cell 3 _ rfl) (And.intro (hkd.cell 4 _ rfl) (And.intro (hkd.cell 5 _ rfl) (hkd.cell 6 _ rfl))))))
    have k1:=And.intro (hke.cell 0 _ rfl) (And.intro (hke.cell 1 _ rfl) (And.intro (hke.cell 2 _ rfl) (And.intro (hke.cell 3 _ rfl) (And.intro (hke.cell 4 _ rfl) (And.intro (hke.cell 5 _ rfl) (hke.cell 6 _ rfl))))))
    have k3:=And.intro (hkf.cell 0 _ rfl) (And.intro (hkf.cell 1 _ rfl) (And.intro (hkf.cell 2 _ rfl) (And.intro (hkf.cell 3 _ rfl) (And.intro (hkf.cell 4 _ rfl) (And.intro (hkf.cell 5 _ rfl) (hkf.cell 6 _ rfl))))))
    have hXl:=hk2.lt
    have HR5:Hid ((Builtin.append_ #[104,104] 104 #[.slice oa m oc,.slice (some ⟨W2.heap.size,0,none⟩) 1 1]).run Tryz.prog (W2.alloc (.cells #[.int .i64 rn,.int .i64 rw',.int .i64 rs,.int .i64 ra,.int .i64 rt,.int .i64 k,.bool run] 109)).drew = .ok (.slice a5 (m + 1) c5) w5):=hr5
    have HO5:=hid hO5
    have HB5:Hid (Below w1.heap.size wr w5):=hB5
    clear hkd hke hkf hr5 hO5 hB4 hB5 hk5 hb2 hk2
    go_region_held3 (fun w' => w'.cell? ⟨X,0,none⟩ = some (.int .i64 rn) ∧ w'.cell? ⟨X,1,none⟩ = some (.int .i64 rw') ∧ w'.cell? ⟨X,2,none⟩ = some (.int .i64 rs) ∧ w'.cell? ⟨X,3,none⟩ = some (.int .i64 ra) ∧ w'.cell? ⟨X,4,none⟩ = some (.int .i64 rt) ∧ w'.cell? ⟨X,5,none⟩ = some (.int .i64 k) ∧ w'.cell? ⟨X,6,none⟩ = some (.bool run)) (first | (with_reducible exact k0) | (with_reducible exact k1) | (with_reducible exact k3) | go_keep) (first | (refine step_append_eq rfl (.tmp 26) (.tmp 28) _ rfl _ _ rfl rfl HR5.out ?_))
    go_wp2_with fail
    go_roundw
    case rel => exact ⟨pre ++ [⟨⟨rn,rw',rs,ra,rt⟩,k,run⟩],_,_,_,rt,rfl,rfl,hok.2,by have:=hok.1;omega,by rw [List.length_append,← HI.out.1];rfl,HST.out,HI.out.2.2.1.trans HB5.out,HO5.out⟩
    case measure => simp [intOf];have:=hok.1;omega
   ·
    have HE:Hid (vall fs l = ([],at',c)):=by
     obtain ⟨fuel,h1,h2⟩:=HI.out.2.1
     obtain ⟨f',rfl⟩:∃ f',fuel = f' + 1:=⟨fuel - 1,by omega⟩
     rw [Hid,h2,glueV_bad (by rw [← HN.out];exact hlt) (by rw [HR.out]) hc]
    have hc1:((c:Int) != 0) = true:=by simp;exact hc
    have hc2:((c:Int) == 0) = false:=by simp;exact hc
    clear hc
    go_wp2_with fail
    refine HLK.out.mono ?_
    rintro e w2 ⟨rfl,hb1⟩
    have HB2:Hid (Below w.heap.size w w2):=below_step HBW.out hb1 HBW.out.size
    clear hb1
    go_wp2_with fail
    rw [HQ.out,HE.out]
    go_ret3
    exact ⟨_,w.heap.size,rfl,Nat.le_refl _,RowsOwn.nil _ _ _ _ _ _,HB2.out.alloc HB2.out.size _⟩
  ·
   obtain rfl:at' = n:=by omega
   have HE:Hid (vall fs l = (pre,0,0)):=by
    obtain ⟨fuel,h1,h2⟩:=HI.out.2.1
    rw [Hid,h2,glueV_end (by rw [← HN.out];omega)]
   go_wp2_with fail
   rw [HQ.out,HE.out]
   go_ret3
   exact ⟨_,w1.heap.size,rfl,HB1.out.size,HI.out.2.2.2,HBW.out⟩
end Go.Proofs.YtphkmpnahnakaaaGreat
namespace Go.Proofs.YtphkmpnahnakaaaGreat
open Go.RowKit Go.Shelf
attribute [local go_sem] Oper.semAt_some
theorem Bytes.sub {w:World} {a:Option Addr} {n cap:Nat} {l:List UInt8} (h:Bytes w (.slice a n cap) l) (hn:n = l.length) (i j:Nat) (hij:i ≤ j) (hj:j ≤ n):Bytes w (sliced a i j cap 1) (part l i j):=by
 subst hn
 have hs:=Seg.sub h i j hij hj
 unfold Bytes part
 rw [List.length_take,List.length_drop,Nat.min_eq_left (by omega),List.map_take,List.map_drop]
 simpa using hs
end Go.Proofs.YtphkmpnahnakaaaGreat
