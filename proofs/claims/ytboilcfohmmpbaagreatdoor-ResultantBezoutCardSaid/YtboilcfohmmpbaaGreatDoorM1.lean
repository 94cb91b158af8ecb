/- Bezout and Accepts of the program answer as the reference does. -/
import Derived.Test.YtboilcfohmmpbaaGreatDoorM0
namespace Go.Proofs.YtboilcfohmmpbaaGreatDoor.Sym.Path
open Go
set_option maxRecDepth 20000
set_option linter.unusedVariables false
namespace linkworkref01_Of
theorem e0(n:Int)(m m1:Nat)(w:UInt32)(z:Nat)(w1:UInt32)(forV:AWhole)(h1:n%18446744073709551616=(m:Int))(h2:n<0)(h3:(0-(m:Int))%18446744073709551616=(m1:Int))(h4:m1%4294967296=w.toNat)(h5:m1/2^(min 32 64)=z)(h6:z%4294967296=w1.toNat)(h7:Contract prg 116 [(vB (decide (n<0))),(wordsPV [w,w1])] forV.pv):Contract prg 66 [(vI n)] forV.pv :=
 Contract.ofL Tryz.func66 (by kernel_rfl) (L.done mixed tabOk (n:=93) (ns:=[1,1,1,1,1,1,3,1]) (tr:=[.reg [],.reg [.none,(iU m)],.reg [],.dec true,.reg [.none,(iU m1)],.reg [.none,.none,.none,(iW w),.none,(iU z),(iW w1),(.slc 0 0 (([w,w1]:List UInt32).map wordPV)),(.pv forV.pv)]]) (cj (cv_u64 h1) (cj (dlt_t h2) (cj (us_neg_u64 h3) (cj (cv_u32N h4) (cj (bs_shr_u64 (k := .u64) h5) (cj (cv_u32N h6) (cj (o_bs sz_word ([w,w1]:List UInt32)) (cj h7 True.intro)))))))) (by kernel_rfl))
theorem e1(n:Int)(m:Nat)(w:UInt32)(z:Nat)(w1:UInt32)(forV:AWhole)(h1:n%18446744073709551616=(m:Int))(h2:0≤n)(h3:m%4294967296=w.toNat)(h4:m/2^(min 32 64)=z)(h5:z%4294967296=w1.toNat)(h6:Contract prg 116 [(vB (decide (n<0))),(wordsPV [w,w1])] forV.pv):Contract prg 66 [(vI n)] forV.pv :=
 Contract.ofL Tryz.func66 (by kernel_rfl) (L.done mixed tabOk (n:=93) (ns:=[1,1,1,1,1,3,1]) (tr:=[.reg [],.reg [.none,(iU m)],.reg [],.dec false,.reg [.none,.none,.none,(iW w),.none,(iU z),(iW w1),(.slc 0 0 (([w,w1]:List UInt32).map wordPV)),(.pv forV.pv)]]) (cj (cv_u64 h1) (cj (dlt_f h2) (cj (cv_u32N h3) (cj (bs_shr_u64 (k := .u64) h4) (cj (cv_u32N h5) (cj (o_bs sz_word ([w,w1]:List UInt32)) (cj h6 True.intro))))))) (by kernel_rfl))
end linkworkref01_Of
namespace linkworkref01_Mul
theorem e0(a b:AWhole)(neg neg1:Bool)(mag mag1 tim:List UInt32)(forV:AWhole)(h1:Contract prg 135 [a.pv] (vB neg))(h2:Contract prg 135 [b.pv] (vB neg1))(h3:Contract prg 137 [a.pv] (wordsPV mag))(h4:Contract prg 137 [b.pv] (wordsPV mag1))(h5:Contract prg 136 [(wordsPV mag),(wordsPV mag1)] (wordsPV tim))(h6:Contract prg 116 [(vB (!(neg==neg1))),(wordsPV tim)] forV.pv):Contract prg 102 [a.pv,b.pv] forV.pv :=
 Contract.ofL Tryz.func102 (by kernel_rfl) (L.done mixed tabOk (n:=72) (ns:=[1,1,1,1,1,1]) (tr:=[.reg [],dr 11 1 [.none,(.pv (vB neg)),.none,(.pv (vB neg1)),.none,.none,(.pv (wordsPV mag)),.none,(.pv (wordsPV mag1)),(.pv (wordsPV tim)),(.pv forV.pv)]]) (cj h1 (cj h2 (cj h3 (cj h4 (cj h5 (cj h6 True.intro)))))) (by kernel_rfl))
end linkworkref01_Mul
namespace linkworkref01_Neg
theorem e0(a:AWhole)(neg:Bool)(mag:List UInt32)(forV:AWhole)(h1:Contract prg 135 [a.pv] (vB neg))(h2:Contract prg 137 [a.pv] (wordsPV mag))(h3:Contract prg 116 [(vB (!neg)),(wordsPV mag)] forV.pv):Contract prg 103 [a.pv] forV.pv :=
 Contract.ofL Tryz.func103 (by kernel_rfl) (L.done mixed tabOk (n:=72) (ns:=[1,1,1]) (tr:=[.reg [],dr 6 1 [.none,(.pv (vB neg)),.none,.none,(.pv (wordsPV mag)),(.pv forV.pv)]]) (cj h1 (cj h2 (cj h3 True.intro))) (by kernel_rfl))
end linkworkref01_Neg
namespace linkworkref01_Sign
theorem e0(a:AWhole)(mag:List UInt32)(h1:Contract prg 137 [a.pv] (wordsPV mag))(h2:mag.length=0):Contract prg 113 [a.pv] (vI 0) :=
 Contract.ofL Tryz.func113 (by kernel_rfl) (L.done mixed tabOk (n:=84) (ns:=[1,1,1]) (tr:=[.reg [],.reg [.none,(.pv (wordsPV mag)),(iI (mag.length:Int))],.dec true,.reg []]) (cj h1 (cj (o_len wordPV mag) (cj (deqN_t h2) True.intro))) (by kernel_rfl))
theorem e1(a:AWhole)(mag:List UInt32)(neg:Bool)(h1:Contract prg 137 [a.pv] (wordsPV mag))(h2:mag.length≠0)(h3:Contract prg 135 [a.pv] (vB neg))(h4:neg=true):Contract prg 113 [a.pv] (vI (-1)) :=
 Contract.ofL Tryz.func113 (by kernel_rfl) (L.done mixed tabOk (n:=99) (ns:=[1,1,1,1,1]) (tr:=[.reg [],.reg [.none,(.pv (wordsPV mag)),(iI (mag.length:Int))],.dec false,.reg [.none,(.pv (vB neg))],.dec true,.reg []]) (cj h1 (cj (o_len wordPV mag) (cj (deqN_f h2) (cj h3 (cj h4 True.intro))))) (by kernel_rfl))
theorem e2(a:AWhole)(mag:List UInt32)(neg:Bool)(h1:Contract prg 137 [a.pv] (wordsPV mag))(h2:mag.length≠0)(h3:Contract prg 135 [a.pv] (vB neg))(h4:neg=false):Contract prg 113 [a.pv] (vI 1) :=
 Contract.ofL Tryz.func113 (by kernel_rfl) (L.done mixed tabOk (n:=102) (ns:=[1,1,1,1,1]) (tr:=[.reg [],.reg [.none,(.pv (wordsPV mag)),(iI (mag.length:Int))],.dec false,.reg [.none,(.pv (vB neg))],.dec false,.reg []]) (cj h1 (cj (o_len wordPV mag) (cj (deqN_f h2) (cj h3 (cj h4 True.intro))))) (by kernel_rfl))
end linkworkref01_Sign
namespace linkworkref01_Gcd
theorem e0(a b:AWhole)(mag mag1 gcd:List UInt32)(forV:AWhole)(h1:Contract prg 137 [a.pv] (wordsPV mag))(h2:Contract prg 137 [b.pv] (wordsPV mag1))(h3:Contract prg 142 [(wordsPV mag),(wordsPV mag1)] (wordsPV gcd))(h4:Contract prg 116 [(vB false),(wordsPV gcd)] forV.pv):Contract prg 114 [a.pv,b.pv] forV.pv :=
 Contract.ofL Tryz.func114 (by kernel_rfl) (L.done mixed tabOk (n:=72) (ns:=[1,1,1,1]) (tr:=[.reg [],dr 6 1 [.none,(.pv (wordsPV mag)),.none,(.pv (wordsPV mag1)),(.pv (wordsPV gcd)),(.pv forV.pv)]]) (cj h1 (cj h2 (cj h3 (cj h4 True.intro)))) (by kernel_rfl))
end linkworkref01_Gcd
namespace linkworkref01_Div
theorem e1(a b:AWhole)(sig:Int)(mag mag1 div div1:List UInt32)(neg:Bool)(plu mag2 minV:List UInt32)(neg1 neg2:Bool)(forV forV1:AWhole)(h1:Contract prg 113 [b.pv] (vI sig))(h2:sig≠0)(h3:Contract prg 137 [a.pv] (wordsPV mag))(h4:Contract prg 137 [b.pv] (wordsPV mag1))(h5:Contract prg 143 [(wordsPV mag),(wordsPV mag1)] (.tup [(wordsPV div),(wordsPV div1)]))(h6:Contract prg 135 [a.pv] (vB neg))(h7:neg=true)(h8:0<div1.length)(h9:Contract prg 144 [(wordsPV div),(wordsPV [(1:UInt32)])] (wordsPV plu))(h10:Contract prg 137 [b.pv] (wordsPV mag2))(h11:Contract prg 145 [(wordsPV mag2),(wordsPV div1)] (wordsPV minV))(h12:Contract prg 135 [a.pv] (vB neg1))(h13:Contract prg 135 [b.pv] (vB neg2))(h14:Contract prg 116 [(vB (!(neg1==neg2))),(wordsPV plu)] forV.pv)(h15:Contract prg 116 [(vB false),(wordsPV minV)] forV1.pv):Contract prg 115 [a.pv,b.pv] (.tup [forV.pv,forV1.pv,(vI 0)]) :=
 Contract.ofL Tryz.func115 (by kernel_rfl) (L.done mixed tabOk (n:=108) (ns:=[1,1,1,1,1,1,1,1,1,1,1,1,3,1,1,1,1,1,1,1]) (tr:=[.reg [],.reg [.none,(.pv (vI sig))],.dec false,dr 9 1 [.none,(.pv (wordsPV mag)),.none,(.pv (wordsPV mag1)),(.pv (.tup [(wordsPV div),(wordsPV div1)]))],.reg [.none,(.pv (vB neg)),.none,.none,(iI (div1.length:Int)),.none,(.dec true)],.dec true,dr 7 2 [.none,(.slc 0 0 (([(1:UInt32)]:List UInt32).map wordPV)),(.pv (wordsPV plu)),.none,(.pv (wordsPV mag2)),.none,(.pv (wordsPV minV))],dr 9 3 [.none,(.pv (vB neg1)),.none,(.pv (vB neg2)),.none,.none,(.pv forV.pv),.none,(.pv forV1.pv)]]) (cj h1 (cj (deq_f h2) (cj h3 (cj h4 (cj h5 (cj h6 (cj h7 (cj h7 (cj (o_len wordPV div1) (cj h7 (cj h7 (cj (dltN_t h8) (cj (o_bs sz_word ([(1:UInt32)]:List UInt32)) (cj h9 (cj h10 (cj h11 (cj h12 (cj h13 (cj h14 (cj h15 True.intro)))))))))))))))))))) (by kernel_rfl))
theorem e2(a b:AWhole)(sig:Int)(mag mag1 div div1:List UInt32)(neg neg1 neg2:Bool)(forV forV1:AWhole)(h1:Contract prg 113 [b.pv] (vI sig))(h2:sig≠0)(h3:Contract prg 137 [a.pv] (wordsPV mag))(h4:Contract prg 137 [b.pv] (wordsPV mag1))(h5:Contract prg 143 [(wordsPV mag),(wordsPV mag1)] (.tup [(wordsPV div),(wordsPV div1)]))(h6:Contract prg 135 [a.pv] (vB neg))(h7:neg=true)(h8:div1.length≤0)(h9:Contract prg 135 [a.pv] (vB neg1))(h10:Contract prg 135 [b.pv] (vB neg2))(h11:Contract prg 116 [(vB (!(neg1==neg2))),(wordsPV div)] forV.pv)(h12:Contract prg 116 [(vB false),(wordsPV div1)] forV1.pv):Contract prg 115 [a.pv,b.pv] (.tup [forV.pv,forV1.pv,(vI 0)]) :=
 Contract.ofL Tryz.func115 (by kernel_rfl) (L.done mixed tabOk (n:=108) (ns:=[1,1,1,1,1,1,1,1,1,1,1,1,1,1,1,1]) (tr:=[.reg [],.reg [.none,(.pv (vI sig))],.dec false,dr 9 1 [.none,(.pv (wordsPV mag)),.none,(.pv (wordsPV mag1)),(.pv (.tup [(wordsPV div),(wordsPV div1)]))],.reg [.none,(.pv (vB neg)),.none,.none,(iI (div1.length:Int)),.none,(.dec true)],.dec false,dr 9 3 [.none,(.pv (vB neg1)),.none,(.pv (vB neg2)),.none,.none,(.pv forV.pv),.none,(.pv forV1.pv)]]) (cj h1 (cj (deq_f h2) (cj h3 (cj h4 (cj h5 (cj h6 (cj h7 (cj h7 (cj (o_len wordPV div1) (cj h7 (cj h7 (cj (dltN_f h8) (cj h9 (cj h10 (cj h11 (cj h12 True.intro)))))))))))))))) (by kernel_rfl))
theorem e3(a b:AWhole)(sig:Int)(mag mag1 div div1:List UInt32)(neg neg1 neg2:Bool)(forV forV1:AWhole)(h1:Contract prg 113 [b.pv] (vI sig))(h2:sig≠0)(h3:Contract prg 137 [a.pv] (wordsPV mag))(h4:Contract prg 137 [b.pv] (wordsPV mag1))(h5:Contract prg 143 [(wordsPV mag),(wordsPV mag1)] (.tup [(wordsPV div),(wordsPV div1)]))(h6:Contract prg 135 [a.pv] (vB neg))(h7:neg=false)(h8:Contract prg 135 [a.pv] (vB neg1))(h9:Contract prg 135 [b.pv] (vB neg2))(h10:Contract prg 116 [(vB (!(neg1==neg2))),(wordsPV div)] forV.pv)(h11:Contract prg 116 [(vB false),(wordsPV div1)] forV1.pv):Contract prg 115 [a.pv,b.pv] (.tup [forV.pv,forV1.pv,(vI 0)]) :=
 Contract.ofL Tryz.func115 (by kernel_rfl) (L.done mixed tabOk (n:=108) (ns:=[1,1,1,1,1,1,1,1,1,1,1,1,1,1]) (tr:=[.reg [],.reg [.none,(.pv (vI sig))],.dec false,dr 9 1 [.none,(.pv (wordsPV mag)),.none,(.pv (wordsPV mag1)),(.pv (.tup [(wordsPV div),(wordsPV div1)]))],.reg [.none,(.pv (vB neg)),.none,.skip,.skip,.skip,(.dec false)],.auto,dr 9 3 [.none,(.pv (vB neg1)),.none,(.pv (vB neg2)),.none,.none,(.pv forV.pv),.none,(.pv forV1.pv)]]) (cj h1 (cj (deq_f h2) (cj h3 (cj h4 (cj h5 (cj h6 (cj h7 (cj h7 (cj h7 (cj h7 (cj h8 (cj h9 (cj h10 (cj h11 True.intro)))))))))))))) (by kernel_rfl))
end linkworkref01_Div
namespace linkworkref01_form
theorem e0(neg:Bool)(m tri:List UInt32)(h1:Contract prg 146 [(wordsPV m)] (wordsPV tri))(h2:tri.length=0):Contract prg 116 [(vB neg),(wordsPV m)] ((⟨false,[]⟩:AWhole).pv) :=
 Contract.ofL Tryz.func116 (by kernel_rfl) (L.done mixed tabOk (n:=90) (ns:=[1,1,1]) (tr:=[.reg [],.reg [.none,(.pv (wordsPV tri))],.reg [.none,(iI (tri.length:Int))],.dec true,.reg []]) (cj h1 (cj (o_len wordPV tri) (cj (deqN_t h2) True.intro))) (by kernel_rfl))
theorem e1(neg:Bool)(m tri:List UInt32)(h1:Contract prg 146 [(wordsPV m)] (wordsPV tri))(h2:tri.length≠0):Contract prg 116 [(vB neg),(wordsPV m)] ((⟨neg,tri⟩:AWhole).pv) :=
 Contract.ofL Tryz.func116 (by kernel_rfl) (L.done mixed tabOk (n:=93) (ns:=[1,1,1]) (tr:=[.reg [],.reg [.none,(.pv (wordsPV tri))],.reg [.none,(iI (tri.length:Int))],.dec false,.reg []]) (cj h1 (cj (o_len wordPV tri) (cj (deqN_f h2) True.intro))) (by kernel_rfl))
end linkworkref01_form
namespace linkworkref01_Cmp
theorem e0(a b sub:AWhole)(sig:Int)(h1:Contract prg 149 [a.pv,b.pv] sub.pv)(h2:Contract prg 113 [sub.pv] (vI sig)):Contract prg 128 [a.pv,b.pv] (vI sig) :=
 Contract.ofL Tryz.func128 (by kernel_rfl) (L.done mixed tabOk (n:=72) (ns:=[1,1]) (tr:=[.reg [],.reg [.none,.none,(.pv sub.pv),(.pv (vI sig))]]) (cj h1 (cj h2 True.intro)) (by kernel_rfl))
end linkworkref01_Cmp
namespace linkworkref01_neg
theorem e0(a:AWhole)(val:Bool)(h1:Contract prg 158 [a.pv] (vB val))(h2:val=true):Contract prg 135 [a.pv] (vB a.neg) :=
 Contract.ofL Tryz.func135 (by kernel_rfl) (L.done mixed tabOk (n:=72) (ns:=[1,1,1,1]) (tr:=[.reg [],.reg [.none,(.pv (vB val)),.none,.none,.none,(.dec true)]]) (cj h1 (cj h2 (cj h2 (cj h2 True.intro)))) (by kernel_rfl))
theorem e1(a:AWhole)(val:Bool)(h1:Contract prg 158 [a.pv] (vB val))(h2:val=false):Contract prg 135 [a.pv] (vB false) :=
 Contract.ofL Tryz.func135 (by kernel_rfl) (L.done mixed tabOk (n:=72) (ns:=[1,1,1,1]) (tr:=[.reg [],.reg [.none,(.pv (vB val)),.none,.skip,.skip,(.dec false)]]) (cj h1 (cj h2 (cj h2 (cj h2 True.intro)))) (by kernel_rfl))
end linkworkref01_neg
namespace linkworkref01_times
@[reducible] noncomputable def fn:Func:=Tryz.f136
noncomputable def atK1:List Itm:=focus [0,2,0,2,0,0,2,0,0] [.code (bodyOf fn)]
def inv1(a b:List UInt32)(t_18:Nat)(site_15:List UInt32):St:=⟨[(0,(.pv (wordsPV a))),(1,(.pv (wordsPV b))),(5,(.row 15 0 (a.length+b.length) 1)),(17,(eI (a.length:Int))),(18,(eI (t_18:Int)))],[(15,(.pure ((site_15:List UInt32).map wordPV).flatten))]⟩
@[reducible] noncomputable def Loop1(a b:List UInt32)(t_18:Nat)(site_15:List UInt32)(r:PV):Prop:=L prg fn atK1 (inv1 a b t_18 site_15) r
noncomputable def atK2:List Itm:=focus [0,2,0,2,0,0,2,0,0,0,0,2,0,0,2,0,0,0,2,0,2,0,0,2,0,0] [.code (bodyOf fn)]
def inv2(a b:List UInt32)(i_6 carry_7 t_18 t_23:Nat)(site_15:List UInt32):St:=⟨[(0,(.pv (wordsPV a))),(1,(.pv (wordsPV b))),(5,(.row 15 0 (a.length+b.length) 1)),(6,(eI (i_6:Int))),(7,(eU carry_7)),(17,(eI (a.length:Int))),(18,(eI (t_18:Int))),(22,(eI (b.length:Int))),(23,(eI (t_23:Int)))],[(15,(.pure ((site_15:List UInt32).map wordPV).flatten))]⟩
@[reducible] noncomputable def Loop2(a b:List UInt32)(i_6 carry_7 t_18 t_23:Nat)(site_15:List UInt32)(r:PV):Prop:=L prg fn atK2 (inv2 a b i_6 carry_7 t_18 t_23 site_15) r
theorem e0(a b:List UInt32){r:PV}(h1:(a.length+b.length)<9223372036854775808)(h2:4*(a.length+b.length)≤140737488355328)(hL:Loop1 a b 0 (List.replicate (a.length+b.length) (0:UInt32)) r):Contract prg 136 [(wordsPV a),(wordsPV b)] r :=
 Contract.ofL Tryz.func136 (by kernel_rfl) (L.go mixed tabOk (n:=87) (ns:=[1,1,1,5,1]) (tr:=[.reg [],.reg [.none,(iI (a.length:Int)),.none,(iI (b.length:Int)),(iI (((a.length+b.length):Nat):Int)),(.app (a.length+b.length) ((List.replicate (a.length+b.length) (0:UInt32):List UInt32).map wordPV).flatten)],.reg [.none,(iI (a.length:Int))],.keep [0,1,5,17,18]]) (cj (o_len wordPV a) (cj (o_len wordPV b) (cj (bs_addN h1) (cj (o_mk wordPV 0 4 (a.length+b.length) (Eq.refl ((((a.length+b.length):Nat):Int):Int)) h2 rfl) (cj (o_len wordPV a) True.intro))))) (by kernel_rfl) hL)
theorem l10(a b:List UInt32)(t_18:Nat)(site_15:List UInt32){r:PV}(h1:t_18<a.length)(hL:Loop2 a b t_18 0 t_18 0 site_15 r):Loop1 a b t_18 site_15 r :=
 L.go mixed tabOk (n:=138) (ns:=[1,1]) (tr:=[.auto,.reg [],.dec true,.reg [],.reg [],.reg [.none,(iI (b.length:Int))],.keep [0,1,5,6,7,17,18,22,23]]) (cj (dltN_t h1) (cj (o_len wordPV b) True.intro)) (by kernel_rfl) hL
theorem l11(a b:List UInt32)(t_18:Nat)(site_15 tri:List UInt32)(h1:a.length≤t_18)(h2:(a.length+b.length)=site_15.length)(h3:Contract prg 146 [(wordsPV site_15)] (wordsPV tri)):Loop1 a b t_18 site_15 (wordsPV tri) :=
 L.done mixed tabOk (n:=120) (ns:=[1,3,1]) (tr:=[.auto,.reg [],.dec false,.frzT 5 ((site_15:List UInt32).map wordPV),.reg [.none,(.pv (wordsPV tri))]]) (cj (dltN_f h1) (cj (o_frz sz_word (site_15:List UInt32) h2) (cj h3 True.intro))) (by kernel_rfl)
theorem l20(a b:List UInt32)(i_6 carry_7 t_18 t_23:Nat)(site_15:List UInt32)(v v1:UInt32)(p:Nat)(v2:UInt32)(s s1:Nat)(w:UInt32)(z:Nat){r:PV}(h1:t_23<b.length)(h2:a[i_6]? = some v)(h3:b[t_23]? = some v1)(h4:(v.toNat*v1.toNat)%18446744073709551616=p)(h5:(i_6+t_23)<9223372036854775808)(h6:(i_6+t_23)<(a.length+b.length))(h7:site_15[(i_6+t_23)]? = some v2)(h8:(p+v2.toNat)%18446744073709551616=s)(h9:(s+carry_7)%18446744073709551616=s1)(h10:s1%4294967296=w.toNat)(h11:s1/2^(min 32 64)=z)(h12:(i_6+t_23)<site_15.length)(h13:(t_23+1)<9223372036854775808)(hL:Loop2 a b i_6 z t_18 (t_23+1) (site_15.set (i_6+t_23) w) r):Loop2 a b i_6 carry_7 t_18 t_23 site_15 r :=
 L.go mixed tabOk (n:=183) (ns:=[1,3,1,3,1,1,1,2,1,1,1,1,1,1,1,2,2,1]) (tr:=[.auto,.reg [],.dec true,.reg [],dr 21 1 [.none,.none,(.row i_6 (wordPV v)),.none,(iU v.toNat),.none,.none,(.row t_23 (wordPV v1)),.none,(iU v1.toNat),(iU p),.none,.none,.none,(iI (((i_6+t_23):Nat):Int)),(.nat (i_6+t_23)),(.ev (.pv (vW v2))),(iU v2.toNat),(iU s),.none,(iU s1)],.reg [.none,.none,.none,(iI (((i_6+t_23):Nat):Int)),.none,(iW w),.none,(iU z),(.nat (i_6+t_23)),(.cells (.pure (((site_15.set (i_6+t_23) w):List UInt32).map wordPV).flatten))],.reg [(iI (((t_23+1):Nat):Int))],.keep [0,1,5,6,7,17,18,22,23]]) (cj (dltN_t h1) (cj (o_at wordPV (Eq.refl (((i_6:Nat):Int):Int)) h2) (cj (cv_w v) (cj (o_at wordPV (Eq.refl (((t_23:Nat):Int):Int)) h3) (cj (cv_w v1) (cj (bs_mul_u64 h4) (cj (bs_addN h5) (cj (cj (Eq.refl ((((i_6+t_23):Nat):Int):Int)) h6) (cj (o_get (enc:=wordPV) (f:=fun a=>(vW a)) (fun _=>rfl) h7) (cj (cv_w v2) (cj (bs_add_u64 h8) (cj (bs_add_u64 h9) (cj (bs_addN h5) (cj (cv_u32N h10) (cj (bs_shr_u64 (k := .u64) h11) (cj (cj (Eq.refl ((((i_6+t_23):Nat):Int):Int)) h6) (cj (o_set sz_word (site_15:List UInt32) w h12) (cj (bs_addN h13) True.intro)))))))))))))))))) (by kernel_rfl) hL
theorem l21(a b:List UInt32)(i_6 carry_7 t_18 t_23:Nat)(site_15:List UInt32)(w:UInt32){r:PV}(h1:b.length≤t_23)(h2:(i_6+b.length)<9223372036854775808)(h3:carry_7%4294967296=w.toNat)(h4:(i_6+b.length)<(a.length+b.length))(h5:(i_6+b.length)<site_15.length)(h6:(t_18+1)<9223372036854775808)(hL:Loop1 a b (t_18+1) (site_15.set (i_6+b.length) w) r):Loop2 a b i_6 carry_7 t_18 t_23 site_15 r :=
 L.go mixed tabOk (n:=174) (ns:=[1,1,1,1,2,2,1]) (tr:=[.auto,.reg [],.dec false,.reg [.none,.none,.none,(iI (b.length:Int)),(iI (((i_6+b.length):Nat):Int)),.none,(iW w),(.nat (i_6+b.length)),(.cells (.pure (((site_15.set (i_6+b.length) w):List UInt32).map wordPV).flatten))],.reg [(iI (((t_18+1):Nat):Int))],.keep [0,1,5,17,18]]) (cj (dltN_f h1) (cj (o_len wordPV b) (cj (bs_addN h2) (cj (cv_u32N h3) (cj (cj (Eq.refl ((((i_6+b.length):Nat):Int):Int)) h4) (cj (o_set sz_word (site_15:List UInt32) w h5) (cj (bs_addN h6) True.intro))))))) (by kernel_rfl) hL
end linkworkref01_times
namespace linkworkref01_mag
theorem e0(a:AWhole)(val:Bool)(h1:Contract prg 158 [a.pv] (vB val))(h2:val=false):Contract prg 137 [a.pv] (wordsPV []) :=
 Contract.ofL Tryz.func137 (by kernel_rfl) (L.done mixed tabOk (n:=84) (ns:=[1,1]) (tr:=[.reg [],.reg [.none,(.pv (vB val))],.dec true,.reg []]) (cj h1 (cj (bnot_t h2) True.intro)) (by kernel_rfl))
theorem e1(a:AWhole)(val:Bool)(h1:Contract prg 158 [a.pv] (vB val))(h2:val=true):Contract prg 137 [a.pv] (wordsPV a.mag) :=
 Contract.ofL Tryz.func137 (by kernel_rfl) (L.done mixed tabOk (n:=87) (ns:=[1,1]) (tr:=[.reg [],.reg [.none,(.pv (vB val))],.dec false,.reg []]) (cj h1 (cj (bnot_f h2) True.intro)) (by kernel_rfl))
end linkworkref01_mag
namespace linkworkref01_gcd
@[reducible] noncomputable def fn:Func:=Tryz.f142
noncomputable def atK1:List Itm:=focus [0,2,0,2,0,0,2,1,2,0,0,2,1,2,0,2,0,0,0] [.code (bodyOf fn)]
def inv1(len_7 len_9 twos_5:Nat)(site_7 site_9:List UInt32):St:=⟨[(0,(.row 7 0 len_7 1)),(1,(.row 9 0 len_9 1)),(5,(eI (twos_5:Int)))],[(7,(.pure ((site_7:List UInt32).map wordPV).flatten)),(9,(.pure ((site_9:List UInt32).map wordPV).flatten))]⟩
@[reducible] noncomputable def Loop1(len_7 len_9 twos_5:Nat)(site_7 site_9:List UInt32)(r:PV):Prop:=L prg fn atK1 (inv1 len_7 len_9 twos_5 site_7 site_9) r
noncomputable def atK2:List Itm:=focus [0,2,0,2,0,0,2,1,2,0,0,2,1,2,0,2,0,0,0,0,0,0,2,1,2,2,2,2,0,0,0] [.code (bodyOf fn)]
def inv2(len_7 len_9 twos_5:Nat)(site_7 site_9:List UInt32):St:=⟨[(0,(.row 7 0 len_7 1)),(1,(.row 9 0 len_9 1)),(5,(eI (twos_5:Int)))],[(7,(.pure ((site_7:List UInt32).map wordPV).flatten)),(9,(.pure ((site_9:List UInt32).map wordPV).flatten))]⟩
@[reducible] noncomputable def Loop2(len_7 len_9 twos_5:Nat)(site_7 site_9:List UInt32)(r:PV):Prop:=L prg fn atK2 (inv2 len_7 len_9 twos_5 site_7 site_9) r
noncomputable def atK3:List Itm:=focus [0,2,0,2,0,0,2,1,2,0,0,2,1,2,0,2,0,0,0,0,0,0,2,1,2,2,2,2,0,0,0,0,0,0,2,0,2,0,0,0,0] [.code (bodyOf fn)]
def inv3(len_7 len_9 twos_5:Nat)(site_7 site_9:List UInt32):St:=⟨[(0,(.row 7 0 len_7 1)),(1,(.row 9 0 len_9 1)),(5,(eI (twos_5:Int)))],[(7,(.pure ((site_7:List UInt32).map wordPV).flatten)),(9,(.pure ((site_9:List UInt32).map wordPV).flatten))]⟩
@[reducible] noncomputable def Loop3(len_7 len_9 twos_5:Nat)(site_7 site_9:List UInt32)(r:PV):Prop:=L prg fn atK3 (inv3 len_7 len_9 twos_5 site_7 site_9) r
noncomputable def atK4:List Itm:=focus [0,2,0,2,0,0,2,1,2,0,0,2,1,2,0,2,0,0,0,0,0,0,2,1,2,2,2,2,0,0,0,0,0,0,2,1,2,2,2,2,0,0,2,0,0] [.code (bodyOf fn)]
def inv4(b_1:List UInt32)(t_64 t_65:Nat):St:=⟨[(1,(.pv (wordsPV b_1))),(64,(eI (t_64:Int))),(65,(eI (t_65:Int)))],[]⟩
@[reducible] noncomputable def Loop4(b_1:List UInt32)(t_64 t_65:Nat)(r:PV):Prop:=L prg fn atK4 (inv4 b_1 t_64 t_65) r
noncomputable def atK5:List Itm:=focus [0,2,0,2,0,0,2,1,2,0,0,2,1,2,0,2,0,0,0,0,0,0,2,1,2,2,2,2,0,0,0,0,0,0,2,0,2,0,0,0,0,0,0,0,2,1,2,2,2,2,0,0,0] [.code (bodyOf fn)]
def inv5(len_7 len_9 twos_5:Nat)(site_7 site_9:List UInt32):St:=⟨[(0,(.row 7 0 len_7 1)),(1,(.row 9 0 len_9 1)),(5,(eI (twos_5:Int)))],[(7,(.pure ((site_7:List UInt32).map wordPV).flatten)),(9,(.pure ((site_9:List UInt32).map wordPV).flatten))]⟩
@[reducible] noncomputable def Loop5(len_7 len_9 twos_5:Nat)(site_7 site_9:List UInt32)(r:PV):Prop:=L prg fn atK5 (inv5 len_7 len_9 twos_5 site_7 site_9) r
theorem e0(a b z:List UInt32)(n:Nat)(z1:List UInt32)(n1:Nat)(h1:ContractX prg 146 [.pv (wordsPV a)] [] (.row 0 0 n 1) [(0,(.pure ((z:List UInt32).map wordPV).flatten))])(h2:ContractX prg 146 [.pv (wordsPV b)] [] (.row 0 0 n1 1) [(0,(.pure ((z1:List UInt32).map wordPV).flatten))])(h3:n=0)(h4:n1=z1.length):Contract prg 142 [(wordsPV a),(wordsPV b)] (wordsPV z1) :=
 Contract.ofL Tryz.func142 (by kernel_rfl) (L.done mixed tabOk (n:=90) (ns:=[1,1,1,3]) (tr:=[.reg [],.reg [.none,(.callX [] (some (0,7)) (.row 0 0 n 1) [(0,(.pure ((z:List UInt32).map wordPV).flatten))]),.none,(.callX [] (some (0,9)) (.row 0 0 n1 1) [(0,(.pure ((z1:List UInt32).map wordPV).flatten))])],.reg [],.dec true,.reg [],.frzT 4 ((z1:List UInt32).map wordPV)]) (cj h1 (cj h2 (cj (deqN_t h3) (cj (o_frz sz_word (z1:List UInt32) h4) True.intro)))) (by kernel_rfl))
theorem e1(a b z:List UInt32)(n:Nat)(z1:List UInt32)(n1:Nat)(h1:ContractX prg 146 [.pv (wordsPV a)] [] (.row 0 0 n 1) [(0,(.pure ((z:List UInt32).map wordPV).flatten))])(h2:ContractX prg 146 [.pv (wordsPV b)] [] (.row 0 0 n1 1) [(0,(.pure ((z1:List UInt32).map wordPV).flatten))])(h3:n≠0)(h4:n1=0)(h5:n=z.length):Contract prg 142 [(wordsPV a),(wordsPV b)] (wordsPV z) :=
 Contract.ofL Tryz.func142 (by kernel_rfl) (L.done mixed tabOk (n:=105) (ns:=[1,1,1,1,3]) (tr:=[.reg [],.reg [.none,(.callX [] (some (0,7)) (.row 0 0 n 1) [(0,(.pure ((z:List UInt32).map wordPV).flatten))]),.none,(.callX [] (some (0,9)) (.row 0 0 n1 1) [(0,(.pure ((z1:List UInt32).map wordPV).flatten))])],.reg [],.dec false,.reg [],.dec true,.reg [],.frzT 4 ((z:List UInt32).map wordPV)]) (cj h1 (cj h2 (cj (deqN_f h3) (cj (deqN_t h4) (cj (o_frz sz_word (z:List UInt32) h5) True.intro))))) (by kernel_rfl))
theorem e2(a b z:List UInt32)(n:Nat)(z1:List UInt32)(n1:Nat){r:PV}(h1:ContractX prg 146 [.pv (wordsPV a)] [] (.row 0 0 n 1) [(0,(.pure ((z:List UInt32).map wordPV).flatten))])(h2:ContractX prg 146 [.pv (wordsPV b)] [] (.row 0 0 n1 1) [(0,(.pure ((z1:List UInt32).map wordPV).flatten))])(h3:n≠0)(h4:n1≠0)(hL:Loop1 n n1 0 z z1 r):Contract prg 142 [(wordsPV a),(wordsPV b)] r :=
 Contract.ofL Tryz.func142 (by kernel_rfl) (L.go mixed tabOk (n:=117) (ns:=[1,1,1,1]) (tr:=[.reg [],.reg [.none,(.callX [] (some (0,7)) (.row 0 0 n 1) [(0,(.pure ((z:List UInt32).map wordPV).flatten))]),.none,(.callX [] (some (0,9)) (.row 0 0 n1 1) [(0,(.pure ((z1:List UInt32).map wordPV).flatten))])],.reg [],.dec false,.reg [],.dec false,.reg [],.keep [0,1,5],.ord [7,9]]) (cj h1 (cj h2 (cj (deqN_f h3) (cj (deqN_f h4) True.intro)))) (by kernel_rfl) hL)
theorem l10(len_7 len_9 twos_5:Nat)(site_7 site_9:List UInt32)(v z v1 z1:UInt32)(z2:List UInt32)(n:Nat)(z3:List UInt32)(n1:Nat){r:PV}(h1:0<len_7)(h2:site_7[0]? = some v)(h3:(v.toNat%4294967296) &&& (1%4294967296)=z.toNat)(h4:z.toNat=0)(h5:0<len_9)(h6:site_9[0]? = some v1)(h7:(v1.toNat%4294967296) &&& (1%4294967296)=z1.toNat)(h8:z1.toNat=0)(h9:ContractX prg 165 [.row 100000 0 len_7 1] [(100000,(.pure ((site_7:List UInt32).map wordPV).flatten))] (.row 100000 0 n 1) [(100000,(.pure ((z2:List UInt32).map wordPV).flatten))])(h10:ContractX prg 165 [.row 100000 0 len_9 1] [(100000,(.pure ((site_9:List UInt32).map wordPV).flatten))] (.row 100000 0 n1 1) [(100000,(.pure ((z3:List UInt32).map wordPV).flatten))])(h11:(twos_5+1)<9223372036854775808)(hL:Loop1 n n1 (twos_5+1) z2 z3 r):Loop1 len_7 len_9 twos_5 site_7 site_9 r :=
 L.go mixed tabOk (n:=150) (ns:=[2,1,1,1,1,2,1,1,1,1,1,1,1,1,1,1]) (tr:=[.auto,.reg [.none,(.nat 0),(.ev (.pv (vW v))),(iW z),.none,.none,.none,(.nat 0),(.ev (.pv (vW v1))),(iW z1),.none,(.dec true)],.dec true,.reg [.none,(.callX [(7,100000)] none (.row 100000 0 n 1) [(100000,(.pure ((z2:List UInt32).map wordPV).flatten))]),.none,(.callX [(9,100000)] none (.row 100000 0 n1 1) [(100000,(.pure ((z3:List UInt32).map wordPV).flatten))])],.reg [.none,(iI (((twos_5+1):Nat):Int))],.keep [0,1,5]]) (cj (cj (Eq.refl (0:Int)) h1) (cj (o_get (enc:=wordPV) (f:=fun a=>(vW a)) (fun _=>rfl) h2) (cj (bs_and_u32 h3) (cj (deqN_t h4) (cj (deqN_t h4) (cj (cj (Eq.refl (0:Int)) h5) (cj (deqN_t h4) (cj (o_get (enc:=wordPV) (f:=fun a=>(vW a)) (fun _=>rfl) h6) (cj (deqN_t h4) (cj (bs_and_u32 h7) (cj (deqN_t h4) (cj (deqN_t h4) (cj (deqN_t h8) (cj h9 (cj h10 (cj (bs_addN h11) True.intro)))))))))))))))) (by kernel_rfl) hL
theorem l11(len_7 len_9 twos_5:Nat)(site_7 site_9:List UInt32)(v z v1 z1:UInt32){r:PV}(h1:0<len_7)(h2:site_7[0]? = some v)(h3:(v.toNat%4294967296) &&& (1%4294967296)=z.toNat)(h4:z.toNat=0)(h5:0<len_9)(h6:site_9[0]? = some v1)(h7:(v1.toNat%4294967296) &&& (1%4294967296)=z1.toNat)(h8:z1.toNat≠0)(hL:Loop2 len_7 len_9 twos_5 site_7 site_9 r):Loop1 len_7 len_9 twos_5 site_7 site_9 r :=
 L.go mixed tabOk (n:=153) (ns:=[2,1,1,1,1,2,1,1,1,1,1,1,1]) (tr:=[.auto,.reg [.none,(.nat 0),(.ev (.pv (vW v))),(iW z),.none,.none,.none,(.nat 0),(.ev (.pv (vW v1))),(iW z1),.none,(.dec true)],.dec false,.keep [0,1,5]]) (cj (cj (Eq.refl (0:Int)) h1) (cj (o_get (enc:=wordPV) (f:=fun a=>(vW a)) (fun _=>rfl) h2) (cj (bs_and_u32 h3) (cj (deqN_t h4) (cj (deqN_t h4) (cj (cj (Eq.refl (0:Int)) h5) (cj (deqN_t h4) (cj (o_get (enc:=wordPV) (f:=fun a=>(vW a)) (fun _=>rfl) h6) (cj (deqN_t h4) (cj (bs_and_u32 h7) (cj (deqN_t h4) (cj (deqN_t h4) (cj (deqN_f h8) True.intro))))))))))))) (by kernel_rfl) hL
theorem l12(len_7 len_9 twos_5:Nat)(site_7 site_9:List UInt32)(v z:UInt32){r:PV}(h1:0<len_7)(h2:site_7[0]? = some v)(h3:(v.toNat%4294967296) &&& (1%4294967296)=z.toNat)(h4:z.toNat≠0)(hL:Loop2 len_7 len_9 twos_5 site_7 site_9 r):Loop1 len_7 len_9 twos_5 site_7 site_9 r :=
 L.go mixed tabOk (n:=153) (ns:=[2,1,1,1,1,1,1,1,1]) (tr:=[.auto,.reg [.none,(.nat 0),(.ev (.pv (vW v))),(iW z),.none,.none,.skip,.skip,.skip,.skip,.skip,(.dec false)],.auto,.keep [0,1,5]]) (cj (cj (Eq.refl (0:Int)) h1) (cj (o_get (enc:=wordPV) (f:=fun a=>(vW a)) (fun _=>rfl) h2) (cj (bs_and_u32 h3) (cj (deqN_f h4) (cj (deqN_f h4) (cj (deqN_f h4) (cj (deqN_f h4) (cj (deqN_f h4) (cj (deqN_f h4) True.intro))))))))) (by kernel_rfl) hL
theorem l20(len_7 len_9 twos_5:Nat)(site_7 site_9:List UInt32){r:PV}(h1:0<len_7)(hL:Loop3 len_7 len_9 twos_5 site_7 site_9 r):Loop2 len_7 len_9 twos_5 site_7 site_9 r :=
 L.go mixed tabOk (n:=183) (ns:=[1]) (tr:=[.auto,.reg [],.dec true,.keep [0,1,5]]) (cj (dltN_t h1) True.intro) (by kernel_rfl) hL
theorem l21(len_7 len_9 twos_5:Nat)(site_7 site_9:List UInt32){r:PV}(h1:len_7≤0)(h2:len_9=site_9.length)(hL:Loop4 site_9 twos_5 0 r):Loop2 len_7 len_9 twos_5 site_7 site_9 r :=
 L.go mixed tabOk (n:=195) (ns:=[1,3]) (tr:=[.auto,.reg [],.dec false,.reg [],.frzT 1 ((site_9:List UInt32).map wordPV),.keep [1,64,65],.drop [7]]) (cj (dltN_f h1) (cj (o_frz sz_word (site_9:List UInt32) h2) True.intro)) (by kernel_rfl) hL
theorem l30(len_7 len_9 twos_5:Nat)(site_7 site_9:List UInt32)(v z:UInt32)(z1:List UInt32)(n:Nat){r:PV}(h1:0<len_7)(h2:site_7[0]? = some v)(h3:(v.toNat%4294967296) &&& (1%4294967296)=z.toNat)(h4:z.toNat=0)(h5:ContractX prg 165 [.row 100000 0 len_7 1] [(100000,(.pure ((site_7:List UInt32).map wordPV).flatten))] (.row 100000 0 n 1) [(100000,(.pure ((z1:List UInt32).map wordPV).flatten))])(hL:Loop3 n len_9 twos_5 z1 site_9 r):Loop3 len_7 len_9 twos_5 site_7 site_9 r :=
 L.go mixed tabOk (n:=210) (ns:=[2,1,1,1,1]) (tr:=[.auto,.reg [.none,(.nat 0),(.ev (.pv (vW v))),(iW z)],.dec true,.reg [.none,(.callX [(7,100000)] none (.row 100000 0 n 1) [(100000,(.pure ((z1:List UInt32).map wordPV).flatten))])],.keep [0,1,5]]) (cj (cj (Eq.refl (0:Int)) h1) (cj (o_get (enc:=wordPV) (f:=fun a=>(vW a)) (fun _=>rfl) h2) (cj (bs_and_u32 h3) (cj (deqN_t h4) (cj h5 True.intro))))) (by kernel_rfl) hL
theorem l31(len_7 len_9 twos_5:Nat)(site_7 site_9:List UInt32)(v z:UInt32){r:PV}(h1:0<len_7)(h2:site_7[0]? = some v)(h3:(v.toNat%4294967296) &&& (1%4294967296)=z.toNat)(h4:z.toNat≠0)(hL:Loop5 len_7 len_9 twos_5 site_7 site_9 r):Loop3 len_7 len_9 twos_5 site_7 site_9 r :=
 L.go mixed tabOk (n:=219) (ns:=[2,1,1,1]) (tr:=[.auto,.reg [.none,(.nat 0),(.ev (.pv (vW v))),(iW z)],.dec false,.keep [0,1,5]]) (cj (cj (Eq.refl (0:Int)) h1) (cj (o_get (enc:=wordPV) (f:=fun a=>(vW a)) (fun _=>rfl) h2) (cj (bs_and_u32 h3) (cj (deqN_f h4) True.intro)))) (by kernel_rfl) hL
theorem l40(b_1:List UInt32)(t_64 t_65:Nat)(plu:List UInt32){r:PV}(h1:t_65<t_64)(h2:Contract prg 144 [(wordsPV b_1),(wordsPV b_1)] (wordsPV plu))(h3:(t_65+1)<9223372036854775808)(hL:Loop4 plu t_64 (t_65+1) r):Loop4 b_1 t_64 t_65 r :=
 L.go mixed tabOk (n:=228) (ns:=[1,1,1]) (tr:=[.auto,.reg [],.dec true,.reg [.none,.none,(.pv (wordsPV plu))],.reg [(iI (((t_65+1):Nat):Int))],.keep [1,64,65]]) (cj (dltN_t h1) (cj h2 (cj (bs_addN h3) True.intro))) (by kernel_rfl) hL
theorem l41(b_1:List UInt32)(t_64 t_65:Nat)(h1:t_64≤t_65):Loop4 b_1 t_64 t_65 (wordsPV b_1) :=
 L.done mixed tabOk (n:=228) (ns:=[1]) (tr:=[.auto,.reg [],.dec false,.reg []]) (cj (dltN_f h1) True.intro) (by kernel_rfl)
theorem l50(len_7 len_9 twos_5:Nat)(site_7 site_9:List UInt32)(v z:UInt32)(z1:List UInt32)(n:Nat){r:PV}(h1:0<len_9)(h2:site_9[0]? = some v)(h3:(v.toNat%4294967296) &&& (1%4294967296)=z.toNat)(h4:z.toNat=0)(h5:ContractX prg 165 [.row 100000 0 len_9 1] [(100000,(.pure ((site_9:List UInt32).map wordPV).flatten))] (.row 100000 0 n 1) [(100000,(.pure ((z1:List UInt32).map wordPV).flatten))])(hL:Loop5 len_7 n twos_5 site_7 z1 r):Loop5 len_7 len_9 twos_5 site_7 site_9 r :=
 L.go mixed tabOk (n:=246) (ns:=[2,1,1,1,1]) (tr:=[.auto,.reg [.none,(.nat 0),(.ev (.pv (vW v))),(iW z)],.dec true,.reg [.none,(.callX [(9,100000)] none (.row 100000 0 n 1) [(100000,(.pure ((z1:List UInt32).map wordPV).flatten))])],.keep [0,1,5]]) (cj (cj (Eq.refl (0:Int)) h1) (cj (o_get (enc:=wordPV) (f:=fun a=>(vW a)) (fun _=>rfl) h2) (cj (bs_and_u32 h3) (cj (deqN_t h4) (cj h5 True.intro))))) (by kernel_rfl) hL
theorem l51(len_7 len_9 twos_5:Nat)(site_7 site_9:List UInt32)(v z:UInt32)(z1 z2:List UInt32)(com:Int)(z3 z4 z5:List UInt32)(n:Nat){r:PV}(h1:0<len_9)(h2:site_9[0]? = some v)(h3:(v.toNat%4294967296) &&& (1%4294967296)=z.toNat)(h4:z.toNat≠0)(h5:ContractX prg 166 [.row 100000 0 len_7 1,.row 100001 0 len_9 1] [(100000,(.pure ((site_7:List UInt32).map wordPV).flatten)),(100001,(.pure ((site_9:List UInt32).map wordPV).flatten))] (.pv (vI com)) [(100000,(.pure ((z1:List UInt32).map wordPV).flatten)),(100001,(.pure ((z2:List UInt32).map wordPV).flatten))])(h6:com<0)(h7:ContractX prg 167 [.row 100000 0 len_9 1,.row 100001 0 len_7 1] [(100000,(.pure ((z2:List UInt32).map wordPV).flatten)),(100001,(.pure ((z1:List UInt32).map wordPV).flatten))] (.pv (.tup [])) [(100000,(.pure ((z3:List UInt32).map wordPV).flatten)),(100001,(.pure ((z4:List UInt32).map wordPV).flatten))])(h8:ContractX prg 168 [.row 100000 0 len_9 1] [(100000,(.pure ((z3:List UInt32).map wordPV).flatten))] (.row 100000 0 n 1) [(100000,(.pure ((z5:List UInt32).map wordPV).flatten))])(hL:Loop2 n len_7 twos_5 z5 z4 r):Loop5 len_7 len_9 twos_5 site_7 site_9 r :=
 L.go mixed tabOk (n:=273) (ns:=[2,1,1,1,1,1,1,1]) (tr:=[.auto,.reg [.none,(.nat 0),(.ev (.pv (vW v))),(iW z)],.dec false,.reg [.none,.none,(.callX [(7,100000),(9,100001)] none (.pv (vI com)) [(100000,(.pure ((z1:List UInt32).map wordPV).flatten)),(100001,(.pure ((z2:List UInt32).map wordPV).flatten))])],.dec true,.reg [],.reg [.none,.none,(.callX [(9,100000),(7,100001)] none (.pv (.tup [])) [(100000,(.pure ((z3:List UInt32).map wordPV).flatten)),(100001,(.pure ((z4:List UInt32).map wordPV).flatten))])],.reg [.none,(.callX [(9,100000)] none (.row 100000 0 n 1) [(100000,(.pure ((z5:List UInt32).map wordPV).flatten))])],.keep [0,1,5],.ren 9 71,.ren 7 9,.ren 71 7,.ord [7,9]]) (cj (cj (Eq.refl (0:Int)) h1) (cj (o_get (enc:=wordPV) (f:=fun a=>(vW a)) (fun _=>rfl) h2) (cj (bs_and_u32 h3) (cj (deqN_f h4) (cj h5 (cj (dlt_t h6) (cj h7 (cj h8 True.intro)))))))) (by kernel_rfl) hL
theorem l52(len_7 len_9 twos_5:Nat)(site_7 site_9:List UInt32)(v z:UInt32)(z1 z2:List UInt32)(com:Int)(z3 z4 z5:List UInt32)(n:Nat){r:PV}(h1:0<len_9)(h2:site_9[0]? = some v)(h3:(v.toNat%4294967296) &&& (1%4294967296)=z.toNat)(h4:z.toNat≠0)(h5:ContractX prg 166 [.row 100000 0 len_7 1,.row 100001 0 len_9 1] [(100000,(.pure ((site_7:List UInt32).map wordPV).flatten)),(100001,(.pure ((site_9:List UInt32).map wordPV).flatten))] (.pv (vI com)) [(100000,(.pure ((z1:List UInt32).map wordPV).flatten)),(100001,(.pure ((z2:List UInt32).map wordPV).flatten))])(h6:0≤com)(h7:ContractX prg 167 [.row 100000 0 len_7 1,.row 100001 0 len_9 1] [(100000,(.pure ((z1:List UInt32).map wordPV).flatten)),(100001,(.pure ((z2:List UInt32).map wordPV).flatten))] (.pv (.tup [])) [(100000,(.pure ((z3:List UInt32).map wordPV).flatten)),(100001,(.pure ((z4:List UInt32).map wordPV).flatten))])(h8:ContractX prg 168 [.row 100000 0 len_7 1] [(100000,(.pure ((z3:List UInt32).map wordPV).flatten))] (.row 100000 0 n 1) [(100000,(.pure ((z5:List UInt32).map wordPV).flatten))])(hL:Loop2 n len_9 twos_5 z5 z4 r):Loop5 len_7 len_9 twos_5 site_7 site_9 r :=
 L.go mixed tabOk (n:=273) (ns:=[2,1,1,1,1,1,1,1]) (tr:=[.auto,.reg [.none,(.nat 0),(.ev (.pv (vW v))),(iW z)],.dec false,.reg [.none,.none,(.callX [(7,100000),(9,100001)] none (.pv (vI com)) [(100000,(.pure ((z1:List UInt32).map wordPV).flatten)),(100001,(.pure ((z2:List UInt32).map wordPV).flatten))])],.dec false,.reg [.none,.none,(.callX [(7,100000),(9,100001)] none (.pv (.tup [])) [(100000,(.pure ((z3:List UInt32).map wordPV).flatten)),(100001,(.pure ((z4:List UInt32).map wordPV).flatten))])],.reg [.none,(.callX [(7,100000)] none (.row 100000 0 n 1) [(100000,(.pure ((z5:List UInt32).map wordPV).flatten))])],.keep [0,1,5]]) (cj (cj (Eq.refl (0:Int)) h1) (cj (o_get (enc:=wordPV) (f:=fun a=>(vW a)) (fun _=>rfl) h2) (cj (bs_and_u32 h3) (cj (deqN_f h4) (cj h5 (cj (dlt_f h6) (cj h7 (cj h8 True.intro)))))))) (by kernel_rfl) hL
end linkworkref01_gcd
namespace linkworkref01_divide
@[reducible] noncomputable def fn:Func:=Tryz.f143
noncomputable def atK1:List Itm:=focus [0,2,0,2,0,2,0,0,2,0,0] [.code (bodyOf fn)]
def inv1(a b:List UInt32)(i_8:Int)(site_13 site_17:List UInt32):St:=⟨[(0,(.pv (wordsPV a))),(1,(.pv (wordsPV b))),(6,(.row 13 0 a.length 1)),(7,(.row 17 0 (b.length+1) 1)),(8,(eI i_8))],[(13,(.pure ((site_13:List UInt32).map wordPV).flatten)),(17,(.pure ((site_17:List UInt32).map wordPV).flatten))]⟩
@[reducible] noncomputable def Loop1(a b:List UInt32)(i_8:Int)(site_13 site_17:List UInt32)(r:PV):Prop:=L prg fn atK1 (inv1 a b i_8 site_13 site_17) r
noncomputable def atK2:List Itm:=focus [0,2,0,2,0,2,0,0,2,0,0,0,0,0,2,0,2,0,0,0,2,0,0,2,0,0] [.code (bodyOf fn)]
def inv2(a b:List UInt32)(i_8:Int)(carry_9:UInt32)(t_36:Nat)(site_13 site_17:List UInt32):St:=⟨[(0,(.pv (wordsPV a))),(1,(.pv (wordsPV b))),(6,(.row 13 0 a.length 1)),(7,(.row 17 0 (b.length+1) 1)),(8,(eI i_8)),(9,(eW carry_9)),(35,(eI (((b.length+1):Nat):Int))),(36,(eI (t_36:Int)))],[(13,(.pure ((site_13:List UInt32).map wordPV).flatten)),(17,(.pure ((site_17:List UInt32).map wordPV).flatten))]⟩
@[reducible] noncomputable def Loop2(a b:List UInt32)(i_8:Int)(carry_9:UInt32)(t_36:Nat)(site_13 site_17:List UInt32)(r:PV):Prop:=L prg fn atK2 (inv2 a b i_8 carry_9 t_36 site_13 site_17) r
theorem e0(a b:List UInt32)(bit:Int){r:PV}(h1:4*a.length≤140737488355328)(h2:(b.length+1)<9223372036854775808)(h3:4*(b.length+1)≤140737488355328)(h4:Contract prg 169 [(wordsPV a)] (vI bit))(h5:InI64 (bit-1))(hL:Loop1 a b (bit-1) (List.replicate a.length (0:UInt32)) (List.replicate (b.length+1) (0:UInt32)) r):Contract prg 143 [(wordsPV a),(wordsPV b)] r :=
 Contract.ofL Tryz.func143 (by kernel_rfl) (L.go mixed tabOk (n:=93) (ns:=[1,5,1,1,5,1,1]) (tr:=[.reg [],.reg [.none,(iI (a.length:Int)),(.app a.length ((List.replicate a.length (0:UInt32):List UInt32).map wordPV).flatten)],.reg [.none,(iI (b.length:Int)),(iI (((b.length+1):Nat):Int)),(.app (b.length+1) ((List.replicate (b.length+1) (0:UInt32):List UInt32).map wordPV).flatten)],.reg [.none,(.pv (vI bit)),(iI (bit-1))],.keep [0,1,6,7,8],.ord [13,17]]) (cj (o_len wordPV a) (cj (o_mk wordPV 0 4 a.length (Eq.refl (((a.length:Nat):Int):Int)) h1 rfl) (cj (o_len wordPV b) (cj (bs_addN h2) (cj (o_mk wordPV 0 4 (b.length+1) (Eq.refl ((((b.length+1):Nat):Int):Int)) h3 rfl) (cj h4 (cj (bs_sub h5) True.intro))))))) (by kernel_rfl) hL)
theorem l10(a b:List UInt32)(i_8:Int)(site_13 site_17:List UInt32)(k:Nat)(v:UInt32)(k1:Nat)(z z1:UInt32){r:PV}(h1:0≤i_8)(h2:i_8=(k:Int))(h3:k<9223372036854775808)(h4:a[(k/32)]? = some v)(h5:i_8=(k1:Int))(h6:v.toNat/2^(min (k1%32) 32)=z.toNat)(h7:(z.toNat%4294967296) &&& (1%4294967296)=z1.toNat)(hL:Loop2 a b i_8 z1 0 site_13 site_17 r):Loop1 a b i_8 site_13 site_17 r :=
 L.go mixed tabOk (n:=138) (ns:=[1,1,3,1,1,1]) (tr:=[.auto,.reg [],.dec true,.reg [.none,.none,(iI (((k/32):Nat):Int)),(.row (k/32) (wordPV v)),.none,.none,(iI (((k1%32):Nat):Int)),(iW z),(iW z1)],.reg [],.keep [0,1,6,7,8,9,35,36]]) (cj (dle_t h1) (cj (o_ti h2 (bs_quoN (y:=32) (by decide) h3)) (cj (o_at wordPV (Eq.refl ((((k/32):Nat):Int):Int)) h4) (cj (o_ti h5 (bs_remN (x:=k1) (y:=32) (by decide))) (cj (bs_shr_u32 (k := .i64) h6) (cj (bs_and_u32 h7) True.intro)))))) (by kernel_rfl) hL
theorem l11(a b:List UInt32)(i_8:Int)(site_13 site_17 tri tri1:List UInt32)(h1:i_8<0)(h2:a.length=site_13.length)(h3:(b.length+1)=site_17.length)(h4:Contract prg 146 [(wordsPV site_13)] (wordsPV tri))(h5:Contract prg 146 [(wordsPV site_17)] (wordsPV tri1)):Loop1 a b i_8 site_13 site_17 (.tup [(wordsPV tri),(wordsPV tri1)]) :=
 L.done mixed tabOk (n:=126) (ns:=[1,3,3,1,1]) (tr:=[.auto,.reg [],.dec false,.frzT 6 ((site_13:List UInt32).map wordPV),.frzT 7 ((site_17:List UInt32).map wordPV),.reg [.none,(.pv (wordsPV tri)),.none,(.pv (wordsPV tri1))]]) (cj (dle_f h1) (cj (o_frz sz_word (site_13:List UInt32) h2) (cj (o_frz sz_word (site_17:List UInt32) h3) (cj h4 (cj h5 True.intro))))) (by kernel_rfl)
theorem l20(a b:List UInt32)(i_8:Int)(carry_9:UInt32)(t_36:Nat)(site_13 site_17:List UInt32)(v z z1 z2:UInt32){r:PV}(h1:t_36<(b.length+1))(h2:site_17[t_36]? = some v)(h3:(v.toNat*2^(min 1 32))%4294967296=z.toNat)(h4:(z.toNat%4294967296) ||| (carry_9.toNat%4294967296)=z1.toNat)(h5:v.toNat/2^(min 31 32)=z2.toNat)(h6:t_36<site_17.length)(h7:(t_36+1)<9223372036854775808)(hL:Loop2 a b i_8 z2 (t_36+1) site_13 (site_17.set t_36 z1) r):Loop2 a b i_8 carry_9 t_36 site_13 site_17 r :=
 L.go mixed tabOk (n:=177) (ns:=[1,2,1,1,1,2,1,1,2,2,1]) (tr:=[.auto,.reg [],.dec true,.reg [],dr 16 1 [.none,.none,.none,.none,(.nat t_36),(.ev (.pv (vW v))),(iW z),.none,(iW z1),.none,.none,(.nat t_36),(.ev (.pv (vW v))),(iW z2),(.nat t_36),(.cells (.pure (((site_17.set t_36 z1):List UInt32).map wordPV).flatten))],.reg [(iI (((t_36+1):Nat):Int))],.keep [0,1,6,7,8,9,35,36]]) (cj (dltN_t h1) (cj (cj (Eq.refl (((t_36:Nat):Int):Int)) h1) (cj (o_get (enc:=wordPV) (f:=fun a=>(vW a)) (fun _=>rfl) h2) (cj (bs_shl_u32 (k := .u64) h3) (cj (bs_or_u32 h4) (cj (cj (Eq.refl (((t_36:Nat):Int):Int)) h1) (cj (o_get (enc:=wordPV) (f:=fun a=>(vW a)) (fun _=>rfl) h2) (cj (bs_shr_u32 (k := .u64) h5) (cj (cj (Eq.refl (((t_36:Nat):Int):Int)) h1) (cj (o_set sz_word (site_17:List UInt32) z1 h6) (cj (bs_addN h7) True.intro))))))))))) (by kernel_rfl) hL
theorem l21(a b:List UInt32)(i_8:Int)(carry_9:UInt32)(t_36:Nat)(site_13 site_17 z:List UInt32)(com:Int)(z1:List UInt32)(k:Nat)(v:UInt32)(k1:Nat)(z2 z3:UInt32){r:PV}(h1:(b.length+1)≤t_36)(h2:ContractX prg 166 [.row 100000 0 (b.length+1) 1,.pv (wordsPV b)] [(100000,(.pure ((site_17:List UInt32).map wordPV).flatten))] (.pv (vI com)) [(100000,(.pure ((z:List UInt32).map wordPV).flatten))])(h3:0≤com)(h4:ContractX prg 167 [.row 100000 0 (b.length+1) 1,.pv (wordsPV b)] [(100000,(.pure ((z:List UInt32).map wordPV).flatten))] (.pv (.tup [])) [(100000,(.pure ((z1:List UInt32).map wordPV).flatten))])(h5:i_8=(k:Int))(h6:k<9223372036854775808)(h7:(k/32)<a.length)(h8:site_13[(k/32)]? = some v)(h9:i_8=(k1:Int))(h10:(1*2^(min (k1%32) 32))%4294967296=z2.toNat)(h11:(v.toNat%4294967296) ||| (z2.toNat%4294967296)=z3.toNat)(h12:(k/32)<site_13.length)(h13:InI64 (i_8-1))(hL:Loop1 a b (i_8-1) (site_13.set (k/32) z3) z1 r):Loop2 a b i_8 carry_9 t_36 site_13 site_17 r :=
 L.go mixed tabOk (n:=189) (ns:=[1,1,1,1,1,2,1,1,1,1,2,2,1]) (tr:=[.auto,.reg [],.dec false,.reg [.none,.none,(.callX [(17,100000)] none (.pv (vI com)) [(100000,(.pure ((z:List UInt32).map wordPV).flatten))])],.dec true,.reg [.none,.none,(.callX [(17,100000)] none (.pv (.tup [])) [(100000,(.pure ((z1:List UInt32).map wordPV).flatten))])],dr 10 1 [.none,.none,(iI (((k/32):Nat):Int)),(.nat (k/32)),(.ev (.pv (vW v))),.none,(iI (((k1%32):Nat):Int)),(iW z2),(iW z3),(.nat (k/32)),(.cells (.pure (((site_13.set (k/32) z3):List UInt32).map wordPV).flatten))],.reg [.none,(iI (i_8-1))],.keep [0,1,6,7,8]]) (cj (dltN_f h1) (cj h2 (cj (dle_t h3) (cj h4 (cj (o_ti h5 (bs_quoN (y:=32) (by decide) h6)) (cj (cj (Eq.refl ((((k/32):Nat):Int):Int)) h7) (cj (o_get (enc:=wordPV) (f:=fun a=>(vW a)) (fun _=>rfl) h8) (cj (o_ti h9 (bs_remN (x:=k1) (y:=32) (by decide))) (cj (bs_shl_u32 (k := .i64) h10) (cj (bs_or_u32 h11) (cj (cj (Eq.refl ((((k/32):Nat):Int):Int)) h7) (cj (o_set sz_word (site_13:List UInt32) z3 h12) (cj (bs_sub h13) True.intro))))))))))))) (by kernel_rfl) hL
theorem l22(a b:List UInt32)(i_8:Int)(carry_9:UInt32)(t_36:Nat)(site_13 site_17 z:List UInt32)(com:Int){r:PV}(h1:(b.length+1)≤t_36)(h2:ContractX prg 166 [.row 100000 0 (b.length+1) 1,.pv (wordsPV b)] [(100000,(.pure ((site_17:List UInt32).map wordPV).flatten))] (.pv (vI com)) [(100000,(.pure ((z:List UInt32).map wordPV).flatten))])(h3:com<0)(h4:InI64 (i_8-1))(hL:Loop1 a b (i_8-1) site_13 z r):Loop2 a b i_8 carry_9 t_36 site_13 site_17 r :=
 L.go mixed tabOk (n:=183) (ns:=[1,1,1,1]) (tr:=[.auto,.reg [],.dec false,.reg [.none,.none,(.callX [(17,100000)] none (.pv (vI com)) [(100000,(.pure ((z:List UInt32).map wordPV).flatten))])],.dec false,.reg [.none,(iI (i_8-1))],.keep [0,1,6,7,8]]) (cj (dltN_f h1) (cj h2 (cj (dle_f h3) (cj (bs_sub h4) True.intro)))) (by kernel_rfl) hL
end linkworkref01_divide
namespace linkworkref01_plus
@[reducible] noncomputable def fn:Func:=Tryz.f144
noncomputable def atK1:List Itm:=focus [0,2,0,2,0,2,0,0,2,0,0] [.code (bodyOf fn)]
def inv1(a b site_31:List UInt32)(carry_6 t_15:Nat):St:=⟨[(0,(.pv (wordsPV a))),(1,(.pv (wordsPV b))),(5,(.row 31 0 site_31.length 1)),(6,(eU carry_6)),(14,(eI ((((max a.length b.length)+1):Nat):Int))),(15,(eI (t_15:Int)))],[(31,(.pure ((site_31:List UInt32).map wordPV).flatten))]⟩
@[reducible] noncomputable def Loop1(a b site_31:List UInt32)(carry_6 t_15:Nat)(r:PV):Prop:=L prg fn atK1 (inv1 a b site_31 carry_6 t_15) r
theorem e0(a b:List UInt32){r:PV}(h1:((max a.length b.length)+1)<9223372036854775808)(hL:Loop1 a b [] 0 0 r):Contract prg 144 [(wordsPV a),(wordsPV b)] r :=
 Contract.ofL Tryz.func144 (by kernel_rfl) (L.go mixed tabOk (n:=93) (ns:=[1,1,1,1]) (tr:=[.reg [],.reg [.nil],.adopt 5 31 1,.reg [],.reg [.none,(iI (a.length:Int)),.none,(iI (b.length:Int)),(iI (((max a.length b.length):Nat):Int)),(iI ((((max a.length b.length)+1):Nat):Int))],.keep [0,1,5,6,14,15]]) (cj (o_len wordPV a) (cj (o_len wordPV b) (cj (o_maxN a.length b.length) (cj (bs_addN h1) True.intro)))) (by kernel_rfl) hL)
theorem l10(a b site_31:List UInt32)(carry_6 t_15 atV atV1 s s1:Nat)(w:UInt32)(z:Nat){r:PV}(h1:t_15<((max a.length b.length)+1))(h2:Contract prg 170 [(wordsPV a),(vI (t_15:Int))] (vU atV))(h3:Contract prg 170 [(wordsPV b),(vI (t_15:Int))] (vU atV1))(h4:(atV+atV1)%18446744073709551616=s)(h5:(s+carry_6)%18446744073709551616=s1)(h6:s1%4294967296=w.toNat)(h7:((site_31++[w]):List UInt32).length*4≤140737488355328)(h8:s1/2^(min 32 64)=z)(h9:(t_15+1)<9223372036854775808)(hL:Loop1 a b (site_31++[w]) z (t_15+1) r):Loop1 a b site_31 carry_6 t_15 r :=
 L.go mixed tabOk (n:=138) (ns:=[1,1,1,1,1,1,6,1,1]) (tr:=[.auto,.reg [],.dec true,.reg [],.reg [.none,.none,(.pv (vU atV)),.none,.none,(.pv (vU atV1)),(iU s),.none,(iU s1)],.reg [.none,.none,(iW w),.none,(.app ((site_31++[w]):List UInt32).length (((site_31++[w]):List UInt32).map wordPV).flatten),.none,(iU z)],.reg [(iI (((t_15+1):Nat):Int))],.keep [0,1,5,6,14,15],.drop [30]]) (cj (dltN_t h1) (cj h2 (cj h3 (cj (bs_add_u64 h4) (cj (bs_add_u64 h5) (cj (cv_u32N h6) (cj (o_appR sz_word (site_31:List UInt32) ([w]:List UInt32) 4 (Eq.refl (site_31:List UInt32).length) (Eq.refl ([w]:List UInt32).length) h7 rfl) (cj (bs_shr_u64 (k := .u64) h8) (cj (bs_addN h9) True.intro))))))))) (by kernel_rfl) hL
theorem l11(a b site_31:List UInt32)(carry_6 t_15:Nat)(tri:List UInt32)(h1:((max a.length b.length)+1)≤t_15)(h2:Contract prg 146 [(wordsPV site_31)] (wordsPV tri)):Loop1 a b site_31 carry_6 t_15 (wordsPV tri) :=
 L.done mixed tabOk (n:=126) (ns:=[1,3,1]) (tr:=[.auto,.reg [],.dec false,.frzT 5 ((site_31:List UInt32).map wordPV),.reg [.none,(.pv (wordsPV tri))]]) (cj (dltN_f h1) (cj (o_frz sz_word (site_31:List UInt32) (Eq.refl (site_31:List UInt32).length)) (cj h2 True.intro))) (by kernel_rfl)
end linkworkref01_plus
namespace linkworkref01_minus
@[reducible] noncomputable def fn:Func:=Tryz.f145
noncomputable def atK1:List Itm:=focus [0,2,0,2,0,2,0,0,2,0,0] [.code (bodyOf fn)]
def inv1(a b site_28:List UInt32)(borrow_6 t_11:Nat):St:=⟨[(0,(.pv (wordsPV a))),(1,(.pv (wordsPV b))),(5,(.row 28 0 site_28.length 1)),(6,(eU borrow_6)),(10,(eI (a.length:Int))),(11,(eI (t_11:Int)))],[(28,(.pure ((site_28:List UInt32).map wordPV).flatten))]⟩
@[reducible] noncomputable def Loop1(a b site_28:List UInt32)(borrow_6 t_11:Nat)(r:PV):Prop:=L prg fn atK1 (inv1 a b site_28 borrow_6 t_11) r
theorem e0 (a b : List UInt32) {r : PV}  (hL : Loop1 a b [] 0 0 r) : Contract prg 145 [(wordsPV a), (wordsPV b)] r :=
 Contract.ofL Tryz.func145 (by kernel_rfl) (L.go mixed tabOk (n:=93) (ns:=[1]) (tr:=[.reg [],.reg [.nil],.adopt 5 28 1,.reg [],.reg [.none,(iI (a.length:Int))],.keep [0,1,5,6,10,11]]) (cj (o_len wordPV a) True.intro) (by kernel_rfl) hL)
theorem l10(a b site_28:List UInt32)(borrow_6 t_11 atV s atV1 d d1:Nat)(w:UInt32)(z d2:Nat){r:PV}(h1:t_11<a.length)(h2:Contract prg 170 [(wordsPV a),(vI (t_11:Int))] (vU atV))(h3:(4294967296+atV)%18446744073709551616=s)(h4:Contract prg 170 [(wordsPV b),(vI (t_11:Int))] (vU atV1))(h5:((s:Nat)-(atV1:Nat):Int)%18446744073709551616=(d:Int))(h6:((d:Nat)-(borrow_6:Nat):Int)%18446744073709551616=(d1:Int))(h7:d1%4294967296=w.toNat)(h8:((site_28++[w]):List UInt32).length*4≤140737488355328)(h9:d1/2^(min 32 64)=z)(h10:((1:Nat)-(z:Nat):Int)%18446744073709551616=(d2:Int))(h11:(t_11+1)<9223372036854775808)(hL:Loop1 a b (site_28++[w]) d2 (t_11+1) r):Loop1 a b site_28 borrow_6 t_11 r :=
 L.go mixed tabOk (n:=138) (ns:=[1,1,1,1,1,1,1,6,1,1,1]) (tr:=[.auto,.reg [],.dec true,.reg [],.reg [.none,.none,(.pv (vU atV)),(iU s),.none,.none,(.pv (vU atV1)),(iU d),.none,(iU d1)],.reg [.none,.none,(iW w),.none,(.app ((site_28++[w]):List UInt32).length (((site_28++[w]):List UInt32).map wordPV).flatten),.none,(iU z),(iU d2)],.reg [(iI (((t_11+1):Nat):Int))],.keep [0,1,5,6,10,11],.drop [27]]) (cj (dltN_t h1) (cj h2 (cj (bs_add_u64 h3) (cj h4 (cj (bs_sub_u64 h5) (cj (bs_sub_u64 h6) (cj (cv_u32N h7) (cj (o_appR sz_word (site_28:List UInt32) ([w]:List UInt32) 4 (Eq.refl (site_28:List UInt32).length) (Eq.refl ([w]:List UInt32).length) h8 rfl) (cj (bs_shr_u64 (k := .u64) h9) (cj (bs_sub_u64 h10) (cj (bs_addN h11) True.intro))))))))))) (by kernel_rfl) hL
theorem l11(a b site_28:List UInt32)(borrow_6 t_11:Nat)(tri:List UInt32)(h1:a.length≤t_11)(h2:Contract prg 146 [(wordsPV site_28)] (wordsPV tri)):Loop1 a b site_28 borrow_6 t_11 (wordsPV tri) :=
 L.done mixed tabOk (n:=126) (ns:=[1,3,1]) (tr:=[.auto,.reg [],.dec false,.frzT 5 ((site_28:List UInt32).map wordPV),.reg [.none,(.pv (wordsPV tri))]]) (cj (dltN_f h1) (cj (o_frz sz_word (site_28:List UInt32) (Eq.refl (site_28:List UInt32).length)) (cj h2 True.intro))) (by kernel_rfl)
end linkworkref01_minus
namespace linkworkref01_trim
@[reducible] noncomputable def fn:Func:=Tryz.f146
noncomputable def atK1:List Itm:=focus [0,2,0,2,0,0,0] [.code (bodyOf fn)]
def inv1(site_6:List UInt32):St:=⟨[(3,(.row 6 0 site_6.length 1))],[(6,(.pure ((site_6:List UInt32).map wordPV).flatten))]⟩
@[reducible] noncomputable def Loop1(site_6:List UInt32)(r:PV):Prop:=L prg fn atK1 (inv1 site_6) r
theorem e0(a:List UInt32){r:PV}(h1:(([]:List UInt32)++a:List UInt32).length*4≤140737488355328)(hL:Loop1 a r):Contract prg 146 [(wordsPV a)] r :=
 Contract.ofL Tryz.func146 (by kernel_rfl) (L.go mixed tabOk (n:=81) (ns:=[6]) (tr:=[.reg [],.reg [.none,.none,(.app (a:List UInt32).length ((a:List UInt32).map wordPV).flatten)],.keep [3]]) (cj (o_appL sz_word ([]:List UInt32) (a:List UInt32) 4 (Eq.refl ([]:List UInt32).length) h1 rfl) True.intro) (by kernel_rfl) hL)
theorem l10(site_6:List UInt32)(k:Nat)(v:UInt32)(u:Nat){r:PV}(h1:0<site_6.length)(h2:InI64 ((site_6.length:Int)-1))(h3:((site_6.length:Int)-1)=(k:Int))(h4:k<site_6.length)(h5:site_6[k]? = some v)(h6:v.toNat=0)(h7:((site_6.length:Int)-1)=(u:Int))(h8:u≤(site_6:List UInt32).length)(hL:Loop1 (site_6.take u) r):Loop1 site_6 r :=
 L.go mixed tabOk (n:=108) (ns:=[1,1,1,1,1,1,2,1,1,1,1,1,1,5,1]) (tr:=[.auto,.reg [.none,.none,.none,.none,.none,.none,.none,(iI ((site_6.length:Int)-1)),(.nat k),(.ev (.pv (vW v))),.none,(.dec true)],.dec true,.reg [.none,.none,.none,(iI ((site_6.length:Int)-1)),(.slc 0 ((site_6.take u).length) [])],.cut 6 (u*1) (((site_6.take u):List UInt32).map wordPV).flatten,.keep [3]]) (cj (dltN_t h1) (cj (dltN_t h1) (cj (dltN_t h1) (cj (dltN_t h1) (cj (bs_sub h2) (cj (dltN_t h1) (cj (cj h3 h4) (cj (dltN_t h1) (cj (o_get (enc:=wordPV) (f:=fun a=>(vW a)) (fun _=>rfl) h5) (cj (dltN_t h1) (cj (dltN_t h1) (cj (deqN_t h6) (cj (bs_sub h2) (cj (o_sr0 (site_6:List UInt32) h7 h8) (cj (o_cut sz_word (site_6:List UInt32) u) True.intro))))))))))))))) (by kernel_rfl) hL
theorem l11(site_6:List UInt32)(k:Nat)(v:UInt32)(h1:0<site_6.length)(h2:InI64 ((site_6.length:Int)-1))(h3:((site_6.length:Int)-1)=(k:Int))(h4:k<site_6.length)(h5:site_6[k]? = some v)(h6:v.toNat≠0):Loop1 site_6 (wordsPV site_6) :=
 L.done mixed tabOk (n:=114) (ns:=[1,1,1,1,1,1,2,1,1,1,1,1,3]) (tr:=[.auto,.reg [.none,.none,.none,.none,.none,.none,.none,(iI ((site_6.length:Int)-1)),(.nat k),(.ev (.pv (vW v))),.none,(.dec true)],.dec false,.reg [],.frzT 2 ((site_6:List UInt32).map wordPV)]) (cj (dltN_t h1) (cj (dltN_t h1) (cj (dltN_t h1) (cj (dltN_t h1) (cj (bs_sub h2) (cj (dltN_t h1) (cj (cj h3 h4) (cj (dltN_t h1) (cj (o_get (enc:=wordPV) (f:=fun a=>(vW a)) (fun _=>rfl) h5) (cj (dltN_t h1) (cj (dltN_t h1) (cj (deqN_f h6) (cj (o_frz sz_word (site_6:List UInt32) (Eq.refl (site_6:List UInt32).length)) True.intro))))))))))))) (by kernel_rfl)
theorem l12(site_6:List UInt32)(h1:site_6.length≤0):Loop1 site_6 (wordsPV site_6) :=
 L.done mixed tabOk (n:=114) (ns:=[1,1,1,1,1,1,1,1,3]) (tr:=[.auto,.reg [.none,.none,.none,.none,.skip,.skip,.skip,.skip,.skip,.skip,.skip,(.dec false)],.auto,.reg [],.frzT 2 ((site_6:List UInt32).map wordPV)]) (cj (dltN_f h1) (cj (dltN_f h1) (cj (dltN_f h1) (cj (dltN_f h1) (cj (dltN_f h1) (cj (dltN_f h1) (cj (dltN_f h1) (cj (dltN_f h1) (cj (o_frz sz_word (site_6:List UInt32) (Eq.refl (site_6:List UInt32).length)) True.intro))))))))) (by kernel_rfl)
end linkworkref01_trim
namespace linkworkref01_trimX
@[reducible] noncomputable def fn:Func:=Tryz.f146
noncomputable def atK1:List Itm:=focus [0,2,0,2,0,0,0] [.code (bodyOf fn)]
def inv1(site_6:List UInt32):St:=⟨[(3,(.row 6 0 site_6.length 1))],[(6,(.pure ((site_6:List UInt32).map wordPV).flatten))]⟩
@[reducible] noncomputable def Loop1(site_6:List UInt32)(sin:Sto)(r:EV)(sout:Sto):Prop:=LX prg fn atK1 (inv1 site_6) sin r sout
theorem e0(a:List UInt32){r:EV}{sout:Sto}(h1:(([]:List UInt32)++a:List UInt32).length*4≤140737488355328)(hL:Loop1 a [] r sout):ContractX prg 146 [(.pv (wordsPV a))] [] r sout :=
 ContractX.ofL Tryz.func146 (by kernel_rfl) (LX.go mixed tabOk (n:=81) (ns:=[6]) (tr:=[.reg [],.reg [.none,.none,(.app (a:List UInt32).length ((a:List UInt32).map wordPV).flatten)],.keep [3]]) rfl (cj (o_appL sz_word ([]:List UInt32) (a:List UInt32) 4 (Eq.refl ([]:List UInt32).length) h1 rfl) True.intro) (by kernel_rfl) hL)
theorem l10(site_6:List UInt32)(k:Nat)(v:UInt32)(u:Nat){r:EV}{sout:Sto}{sin:Sto}(hs:sin.all (fun p=>Nat.ble fn.ntmps p.1)=true)(h1:0<site_6.length)(h2:InI64 ((site_6.length:Int)-1))(h3:((site_6.length:Int)-1)=(k:Int))(h4:k<site_6.length)(h5:site_6[k]? = some v)(h6:v.toNat=0)(h7:((site_6.length:Int)-1)=(u:Int))(h8:u≤(site_6:List UInt32).length)(hL:Loop1 (site_6.take u) sin r sout):Loop1 site_6 sin r sout :=
 LX.go mixed tabOk (n:=108) (ns:=[1,1,1,1,1,1,2,1,1,1,1,1,1,5,1]) (tr:=[.auto,.reg [.none,.none,.none,.none,.none,.none,.none,(iI ((site_6.length:Int)-1)),(.nat k),(.ev (.pv (vW v))),.none,(.dec true)],.dec true,.reg [.none,.none,.none,(iI ((site_6.length:Int)-1)),(.slc 0 ((site_6.take u).length) [])],.cut 6 (u*1) (((site_6.take u):List UInt32).map wordPV).flatten,.keep [3]]) hs (cj (dltN_t h1) (cj (dltN_t h1) (cj (dltN_t h1) (cj (dltN_t h1) (cj (bs_sub h2) (cj (dltN_t h1) (cj (cj h3 h4) (cj (dltN_t h1) (cj (o_get (enc:=wordPV) (f:=fun a=>(vW a)) (fun _=>rfl) h5) (cj (dltN_t h1) (cj (dltN_t h1) (cj (deqN_t h6) (cj (bs_sub h2) (cj (o_sr0 (site_6:List UInt32) h7 h8) (cj (o_cut sz_word (site_6:List UInt32) u) True.intro))))))))))))))) (by kernel_rfl) hL
theorem l11(site_6:List UInt32)(k:Nat)(v:UInt32){sin:Sto}(hs:sin.all (fun p=>Nat.ble fn.ntmps p.1)=true)(hi:sin.all (fun p=>gvB p.1||(Sto.get [(0,(.pure ((site_6:List UInt32).map wordPV).flatten))] p.1).isSome)=true)(h1:0<site_6.length)(h2:InI64 ((site_6.length:Int)-1))(h3:((site_6.length:Int)-1)=(k:Int))(h4:k<site_6.length)(h5:site_6[k]? = some v)(h6:v.toNat≠0):Loop1 site_6 sin (.row 0 0 site_6.length 1) [(0,(.pure ((site_6:List UInt32).map wordPV).flatten))] :=
 LX.done2 mixed tabOk (n:=114) (ns:=[1,1,1,1,1,1,2,1,1,1,1,1]) (tr:=[.auto,.reg [.none,.none,.none,.none,.none,.none,.none,(iI ((site_6.length:Int)-1)),(.nat k),(.ev (.pv (vW v))),.none,(.dec true)],.dec false,.reg [],.ren 6 0,.ord [0]]) hs hi (cj (dltN_t h1) (cj (dltN_t h1) (cj (dltN_t h1) (cj (dltN_t h1) (cj (bs_sub h2) (cj (dltN_t h1) (cj (cj h3 h4) (cj (dltN_t h1) (cj (o_get (enc:=wordPV) (f:=fun a=>(vW a)) (fun _=>rfl) h5) (cj (dltN_t h1) (cj (dltN_t h1) (cj (deqN_f h6) True.intro)))))))))))) (by kernel_rfl)
theorem l12(site_6:List UInt32){sin:Sto}(hs:sin.all (fun p=>Nat.ble fn.ntmps p.1)=true)(hi:sin.all (fun p=>gvB p.1||(Sto.get [(0,(.pure ((site_6:List UInt32).map wordPV).flatten))] p.1).isSome)=true)(h1:site_6.length≤0):Loop1 site_6 sin (.row 0 0 site_6.length 1) [(0,(.pure ((site_6:List UInt32).map wordPV).flatten))] :=
 LX.done2 mixed tabOk (n:=114) (ns:=[1,1,1,1,1,1,1,1]) (tr:=[.auto,.reg [.none,.none,.none,.none,.skip,.skip,.skip,.skip,.skip,.skip,.skip,(.dec false)],.auto,.reg [],.ren 6 0,.ord [0]]) hs hi (cj (dltN_f h1) (cj (dltN_f h1) (cj (dltN_f h1) (cj (dltN_f h1) (cj (dltN_f h1) (cj (dltN_f h1) (cj (dltN_f h1) (cj (dltN_f h1) True.intro)))))))) (by kernel_rfl)
end linkworkref01_trimX
namespace linkworkref01_Sub
theorem e0(a b neg add:AWhole)(h1:Contract prg 103 [b.pv] neg.pv)(h2:Contract prg 157 [a.pv,neg.pv] add.pv):Contract prg 149 [a.pv,b.pv] add.pv :=
 Contract.ofL Tryz.func149 (by kernel_rfl) (L.done mixed tabOk (n:=72) (ns:=[1,1]) (tr:=[.reg [],dr 4 1 [.none,.none,(.pv neg.pv),(.pv add.pv)]]) (cj h1 (cj h2 True.intro)) (by kernel_rfl))
end linkworkref01_Sub
namespace linkworkref01_Add
theorem e0(a b:AWhole)(mag mag1:List UInt32)(neg neg1 neg2:Bool)(plu:List UInt32)(forV:AWhole)(h1:Contract prg 137 [a.pv] (wordsPV mag))(h2:Contract prg 137 [b.pv] (wordsPV mag1))(h3:Contract prg 135 [a.pv] (vB neg))(h4:Contract prg 135 [b.pv] (vB neg1))(h5:neg=neg1)(h6:Contract prg 135 [a.pv] (vB neg2))(h7:Contract prg 144 [(wordsPV mag),(wordsPV mag1)] (wordsPV plu))(h8:Contract prg 116 [(vB neg2),(wordsPV plu)] forV.pv):Contract prg 157 [a.pv,b.pv] forV.pv :=
 Contract.ofL Tryz.func157 (by kernel_rfl) (L.done mixed tabOk (n:=90) (ns:=[1,1,1,1,1,1,1,1]) (tr:=[.reg [],dr 4 2 [.none,(.pv (wordsPV mag)),.none,(.pv (wordsPV mag1))],dr 5 0 [.none,(.pv (vB neg)),.none,(.pv (vB neg1))],.dec true,.reg [.none,(.pv (vB neg2)),.none,.none,(.pv (wordsPV plu)),(.pv forV.pv)]]) (cj h1 (cj h2 (cj h3 (cj h4 (cj (beq_t h5) (cj h6 (cj h7 (cj h8 True.intro)))))))) (by kernel_rfl))
theorem e1(a b:AWhole)(mag mag1:List UInt32)(neg neg1:Bool)(com:Int)(neg2:Bool)(minV:List UInt32)(forV:AWhole)(h1:Contract prg 137 [a.pv] (wordsPV mag))(h2:Contract prg 137 [b.pv] (wordsPV mag1))(h3:Contract prg 135 [a.pv] (vB neg))(h4:Contract prg 135 [b.pv] (vB neg1))(h5:neg≠neg1)(h6:Contract prg 166 [(wordsPV mag),(wordsPV mag1)] (vI com))(h7:0≤com)(h8:Contract prg 135 [a.pv] (vB neg2))(h9:Contract prg 145 [(wordsPV mag),(wordsPV mag1)] (wordsPV minV))(h10:Contract prg 116 [(vB neg2),(wordsPV minV)] forV.pv):Contract prg 157 [a.pv,b.pv] forV.pv :=
 Contract.ofL Tryz.func157 (by kernel_rfl) (L.done mixed tabOk (n:=105) (ns:=[1,1,1,1,1,1,1,1,1,1]) (tr:=[.reg [],dr 4 2 [.none,(.pv (wordsPV mag)),.none,(.pv (wordsPV mag1))],dr 5 0 [.none,(.pv (vB neg)),.none,(.pv (vB neg1))],.dec false,.reg [.none,.none,(.pv (vI com))],.dec true,.reg [.none,(.pv (vB neg2)),.none,.none,(.pv (wordsPV minV)),(.pv forV.pv)]]) (cj h1 (cj h2 (cj h3 (cj h4 (cj (beq_f h5) (cj h6 (cj (dle_t h7) (cj h8 (cj h9 (cj h10 True.intro)))))))))) (by kernel_rfl))
theorem e2(a b:AWhole)(mag mag1:List UInt32)(neg neg1:Bool)(com:Int)(neg2:Bool)(minV:List UInt32)(forV:AWhole)(h1:Contract prg 137 [a.pv] (wordsPV mag))(h2:Contract prg 137 [b.pv] (wordsPV mag1))(h3:Contract prg 135 [a.pv] (vB neg))(h4:Contract prg 135 [b.pv] (vB neg1))(h5:neg≠neg1)(h6:Contract prg 166 [(wordsPV mag),(wordsPV mag1)] (vI com))(h7:com<0)(h8:Contract prg 135 [b.pv] (vB neg2))(h9:Contract prg 145 [(wordsPV mag1),(wordsPV mag)] (wordsPV minV))(h10:Contract prg 116 [(vB neg2),(wordsPV minV)] forV.pv):Contract prg 157 [a.pv,b.pv] forV.pv :=
 Contract.ofL Tryz.func157 (by kernel_rfl) (L.done mixed tabOk (n:=108) (ns:=[1,1,1,1,1,1,1,1,1,1]) (tr:=[.reg [],dr 4 2 [.none,(.pv (wordsPV mag)),.none,(.pv (wordsPV mag1))],dr 5 0 [.none,(.pv (vB neg)),.none,(.pv (vB neg1))],.dec false,.reg [.none,.none,(.pv (vI com))],.dec false,.reg [.none,(.pv (vB neg2)),.none,.none,(.pv (wordsPV minV)),(.pv forV.pv)]]) (cj h1 (cj h2 (cj h3 (cj h4 (cj (beq_f h5) (cj h6 (cj (dle_f h7) (cj h8 (cj h9 (cj h10 True.intro)))))))))) (by kernel_rfl))
end linkworkref01_Add
namespace linkworkref01_Valid
theorem e0(a:AWhole)(h1:a.mag.length=0):Contract prg 158 [a.pv] (vB (!a.neg)) :=
 Contract.ofL Tryz.func158 (by kernel_rfl) (L.done mixed tabOk (n:=84) (ns:=[1,1]) (tr:=[.reg [],.reg [.none,.none,(iI (a.mag.length:Int))],.dec true,.reg []]) (cj (o_len wordPV a.mag) (cj (deqN_t h1) True.intro)) (by kernel_rfl))
theorem e1(a:AWhole)(k:Nat)(v:UInt32)(h1:a.mag.length≠0)(h2:InI64 ((a.mag.length:Int)-1))(h3:((a.mag.length:Int)-1)=(k:Int))(h4:a.mag[k]? = some v):Contract prg 158 [a.pv] (vB ((v.toNat:Int) != 0)) :=
 Contract.ofL Tryz.func158 (by kernel_rfl) (L.done mixed tabOk (n:=87) (ns:=[1,1,1,1,3]) (tr:=[.reg [],.reg [.none,.none,(iI (a.mag.length:Int))],.dec false,.reg [.none,.none,.none,.none,(iI (a.mag.length:Int)),(iI ((a.mag.length:Int)-1)),(.row k (wordPV v))]]) (cj (o_len wordPV a.mag) (cj (deqN_f h1) (cj (o_len wordPV a.mag) (cj (bs_sub h2) (cj (o_at wordPV h3 h4) True.intro))))) (by kernel_rfl))
end linkworkref01_Valid
namespace linkworkref01_halve
@[reducible] noncomputable def fn:Func:=Tryz.f165
noncomputable def atK1:List Itm:=focus [0,2,0,0,2,0,0] [.code (bodyOf fn)]
def inv1(len t_6:Nat)(site_100000:List UInt32):St:=⟨[(0,(.row 100000 0 len 1)),(5,(eI (len:Int))),(6,(eI (t_6:Int)))],[(100000,(.pure ((site_100000:List UInt32).map wordPV).flatten))]⟩
@[reducible] noncomputable def Loop1(len t_6:Nat)(site_100000:List UInt32)(sin:Sto)(r:EV)(sout:Sto):Prop:=LX prg fn atK1 (inv1 len t_6 site_100000) sin r sout
theorem e0 (a : List UInt32) (len : Nat) {r : EV} {sout : Sto}  (hL : Loop1 len 0 a [(100000, (.pure ((a : List UInt32).map wordPV).flatten))] r sout) : ContractX prg 165 [(.row 100000 0 len 1)] [(100000, (.pure ((a : List UInt32).map wordPV).flatten))] r sout :=
 ContractX.ofL Tryz.func165 (by kernel_rfl) (LX.go mixed tabOk (n:=81) (ns:=[]) (tr:=[.reg [],.reg [],.keep [0,5,6]]) rfl True.intro (by kernel_rfl) hL)
theorem l10(len t_6:Nat)(site_100000 z:List UInt32)(atV z1:Nat)(z2:List UInt32)(atV1 z3 z4:Nat)(w:UInt32){r:EV}{sout:Sto}{sin:Sto}(hs:sin.all (fun p=>Nat.ble fn.ntmps p.1)=true)(h1:t_6<len)(h2:ContractX prg 170 [.row 100000 0 len 1,.pv (vI (t_6:Int))] [(100000,(.pure ((site_100000:List UInt32).map wordPV).flatten))] (.pv (vU atV)) [(100000,(.pure ((z:List UInt32).map wordPV).flatten))])(h3:atV/2^(min 1 64)=z1)(h4:(t_6+1)<9223372036854775808)(h5:ContractX prg 170 [.row 100000 0 len 1,.pv (vI (((t_6+1):Nat):Int))] [(100000,(.pure ((z:List UInt32).map wordPV).flatten))] (.pv (vU atV1)) [(100000,(.pure ((z2:List UInt32).map wordPV).flatten))])(h6:(atV1*2^(min 31 64))%18446744073709551616=z3)(h7:(z1%18446744073709551616) ||| (z3%18446744073709551616)=z4)(h8:z4%4294967296=w.toNat)(h9:t_6<z2.length)(hL:Loop1 len (t_6+1) (z2.set t_6 w) sin r sout):Loop1 len t_6 site_100000 sin r sout :=
 LX.go mixed tabOk (n:=120) (ns:=[1,1,1,1,1,1,1,1,2,2,1]) (tr:=[.auto,.reg [],.dec true,.reg [],.reg [.none,.none,.none,.none,(.callX [(100000,100000)] none (.pv (vU atV)) [(100000,(.pure ((z:List UInt32).map wordPV).flatten))]),(iU z1),.none,.none,(iI (((t_6+1):Nat):Int)),(.callX [(100000,100000)] none (.pv (vU atV1)) [(100000,(.pure ((z2:List UInt32).map wordPV).flatten))]),(iU z3),(iU z4),(iW w),(.nat t_6),(.cells (.pure (((z2.set t_6 w):List UInt32).map wordPV).flatten))],.reg [(iI (((t_6+1):Nat):Int))],.keep [0,5,6]]) hs (cj (dltN_t h1) (cj h2 (cj (bs_shr_u64 (k := .u64) h3) (cj (bs_addN h4) (cj h5 (cj (bs_shl_u64 (k := .u64) h6) (cj (bs_or_u64 h7) (cj (cv_u32N h8) (cj (cj (Eq.refl (((t_6:Nat):Int):Int)) h1) (cj (o_set sz_word (z2:List UInt32) w h9) (cj (bs_addN h4) True.intro))))))))))) (by kernel_rfl) hL
theorem l11(len t_6:Nat)(site_100000 z:List UInt32)(n:Nat){sin:Sto}(hs:sin.all (fun p=>Nat.ble fn.ntmps p.1)=true)(hi:sin.all (fun p=>gvB p.1||(Sto.get [(100000,(.pure (((z.take n):List UInt32).map wordPV).flatten))] p.1).isSome)=true)(h1:len≤t_6)(h2:ContractX prg 168 [.row 100000 0 len 1] [(100000,(.pure ((site_100000:List UInt32).map wordPV).flatten))] (.row 100000 0 n 1) [(100000,(.pure ((z:List UInt32).map wordPV).flatten))]):Loop1 len t_6 site_100000 sin (.row 100000 0 n 1) [(100000,(.pure (((z.take n):List UInt32).map wordPV).flatten))] :=
 LX.done2 mixed tabOk (n:=114) (ns:=[1,1,1]) (tr:=[.auto,.reg [],.dec false,.reg [.none,(.callX [(100000,100000)] none (.row 100000 0 n 1) [(100000,(.pure ((z:List UInt32).map wordPV).flatten))])],.cut 100000 (n*1) (((z.take n):List UInt32).map wordPV).flatten,.ord [100000]]) hs hi (cj (dltN_f h1) (cj h2 (cj (o_cut sz_word (z:List UInt32) n) True.intro))) (by kernel_rfl)
end linkworkref01_halve
namespace linkworkref01_compare
@[reducible] noncomputable def fn:Func:=Tryz.f166
noncomputable def atK1:List Itm:=focus [0,2,0,0,2,0,0] [.code (bodyOf fn)]
def inv1(a b:List UInt32)(i_5:Int):St:=⟨[(0,(.pv (wordsPV a))),(1,(.pv (wordsPV b))),(5,(eI i_5))],[]⟩
@[reducible] noncomputable def Loop1(a b:List UInt32)(i_5:Int)(r:PV):Prop:=L prg fn atK1 (inv1 a b i_5) r
theorem e0(a b:List UInt32){r:PV}(h1:InI64 ((((max a.length b.length):Nat):Int)-1))(hL:Loop1 a b ((((max a.length b.length):Nat):Int)-1) r):Contract prg 166 [(wordsPV a),(wordsPV b)] r :=
 Contract.ofL Tryz.func166 (by kernel_rfl) (L.go mixed tabOk (n:=81) (ns:=[1,1,1,1]) (tr:=[.reg [],.reg [.none,(iI (a.length:Int)),.none,(iI (b.length:Int)),(iI (((max a.length b.length):Nat):Int)),(iI ((((max a.length b.length):Nat):Int)-1))],.keep [0,1,5]]) (cj (o_len wordPV a) (cj (o_len wordPV b) (cj (o_maxN a.length b.length) (cj (bs_sub h1) True.intro)))) (by kernel_rfl) hL)
theorem l10(a b:List UInt32)(i_5:Int)(atV atV1 atV2 atV3:Nat)(h1:0≤i_5)(h2:Contract prg 170 [(wordsPV a),(vI i_5)] (vU atV))(h3:Contract prg 170 [(wordsPV b),(vI i_5)] (vU atV1))(h4:atV≠atV1)(h5:Contract prg 170 [(wordsPV a),(vI i_5)] (vU atV2))(h6:Contract prg 170 [(wordsPV b),(vI i_5)] (vU atV3))(h7:atV2<atV3):Loop1 a b i_5 (vI (-1)) :=
 L.done mixed tabOk (n:=132) (ns:=[1,1,1,1,1,1,1]) (tr:=[.auto,.reg [],.dec true,.reg [.none,.none,(.pv (vU atV)),.none,.none,(.pv (vU atV1))],.dec true,.reg [.none,.none,(.pv (vU atV2)),.none,.none,(.pv (vU atV3))],.dec true,.reg []]) (cj (dle_t h1) (cj h2 (cj h3 (cj (dneN_t h4) (cj h5 (cj h6 (cj (dltN_t h7) True.intro))))))) (by kernel_rfl)
theorem l11(a b:List UInt32)(i_5:Int)(atV atV1 atV2 atV3:Nat)(h1:0≤i_5)(h2:Contract prg 170 [(wordsPV a),(vI i_5)] (vU atV))(h3:Contract prg 170 [(wordsPV b),(vI i_5)] (vU atV1))(h4:atV≠atV1)(h5:Contract prg 170 [(wordsPV a),(vI i_5)] (vU atV2))(h6:Contract prg 170 [(wordsPV b),(vI i_5)] (vU atV3))(h7:atV3≤atV2):Loop1 a b i_5 (vI 1) :=
 L.done mixed tabOk (n:=135) (ns:=[1,1,1,1,1,1,1]) (tr:=[.auto,.reg [],.dec true,.reg [.none,.none,(.pv (vU atV)),.none,.none,(.pv (vU atV1))],.dec true,.reg [.none,.none,(.pv (vU atV2)),.none,.none,(.pv (vU atV3))],.dec false,.reg []]) (cj (dle_t h1) (cj h2 (cj h3 (cj (dneN_t h4) (cj h5 (cj h6 (cj (dltN_f h7) True.intro))))))) (by kernel_rfl)
theorem l12(a b:List UInt32)(i_5:Int)(atV atV1:Nat){r:PV}(h1:0≤i_5)(h2:Contract prg 170 [(wordsPV a),(vI i_5)] (vU atV))(h3:Contract prg 170 [(wordsPV b),(vI i_5)] (vU atV1))(h4:atV=atV1)(h5:InI64 (i_5-1))(hL:Loop1 a b (i_5-1) r):Loop1 a b i_5 r :=
 L.go mixed tabOk (n:=123) (ns:=[1,1,1,1,1]) (tr:=[.auto,.reg [],.dec true,.reg [.none,.none,(.pv (vU atV)),.none,.none,(.pv (vU atV1))],.dec false,.reg [.none,(iI (i_5-1))],.keep [0,1,5]]) (cj (dle_t h1) (cj h2 (cj h3 (cj (dneN_f h4) (cj (bs_sub h5) True.intro))))) (by kernel_rfl) hL
theorem l13(a b:List UInt32)(i_5:Int)(h1:i_5<0):Loop1 a b i_5 (vI 0) :=
 L.done mixed tabOk (n:=114) (ns:=[1]) (tr:=[.auto,.reg [],.dec false,.reg []]) (cj (dle_f h1) True.intro) (by kernel_rfl)
end linkworkref01_compare
namespace linkworkref01_compareR
@[reducible] noncomputable def fn:Func:=Tryz.f166
noncomputable def atK1:List Itm:=focus [0,2,0,0,2,0,0] [.code (bodyOf fn)]
def inv1(len:Nat)(b:List UInt32)(i_5:Int)(site_100000:List UInt32):St:=⟨[(0,(.row 100000 0 len 1)),(1,(.pv (wordsPV b))),(5,(eI i_5))],[(100000,(.pure ((site_100000:List UInt32).map wordPV).flatten))]⟩
@[reducible] noncomputable def Loop1(len:Nat)(b:List UInt32)(i_5:Int)(site_100000:List UInt32)(sin:Sto)(r:EV)(sout:Sto):Prop:=LX prg fn atK1 (inv1 len b i_5 site_100000) sin r sout
theorem e0(a:List UInt32)(len:Nat)(b:List UInt32){r:EV}{sout:Sto}(h1:InI64 ((((max len b.length):Nat):Int)-1))(hL:Loop1 len b ((((max len b.length):Nat):Int)-1) a [(100000,(.pure ((a:List UInt32).map wordPV).flatten))] r sout):ContractX prg 166 [(.row 100000 0 len 1),(.pv (wordsPV b))] [(100000,(.pure ((a:List UInt32).map wordPV).flatten))] r sout :=
 ContractX.ofL Tryz.func166 (by kernel_rfl) (LX.go mixed tabOk (n:=81) (ns:=[1,1,1]) (tr:=[.reg [],.reg [.none,.none,.none,(iI (b.length:Int)),(iI (((max len b.length):Nat):Int)),(iI ((((max len b.length):Nat):Int)-1))],.keep [0,1,5]]) rfl (cj (o_len wordPV b) (cj (o_maxN len b.length) (cj (bs_sub h1) True.intro))) (by kernel_rfl) hL)
theorem l10(len:Nat)(b:List UInt32)(i_5:Int)(site_100000 z:List UInt32)(atV atV1:Nat)(z1:List UInt32)(atV2 atV3:Nat){sin:Sto}(hs:sin.all (fun p=>Nat.ble fn.ntmps p.1)=true)(hi:sin.all (fun p=>gvB p.1||(Sto.get [(100000,(.pure ((z1:List UInt32).map wordPV).flatten))] p.1).isSome)=true)(h1:0≤i_5)(h2:ContractX prg 170 [.row 100000 0 len 1,.pv (vI i_5)] [(100000,(.pure ((site_100000:List UInt32).map wordPV).flatten))] (.pv (vU atV)) [(100000,(.pure ((z:List UInt32).map wordPV).flatten))])(h3:Contract prg 170 [(wordsPV b),(vI i_5)] (vU atV1))(h4:atV≠atV1)(h5:ContractX prg 170 [.row 100000 0 len 1,.pv (vI i_5)] [(100000,(.pure ((z:List UInt32).map wordPV).flatten))] (.pv (vU atV2)) [(100000,(.pure ((z1:List UInt32).map wordPV).flatten))])(h6:Contract prg 170 [(wordsPV b),(vI i_5)] (vU atV3))(h7:atV2<atV3):Loop1 len b i_5 site_100000 sin (.pv (vI (-1))) [(100000,(.pure ((z1:List UInt32).map wordPV).flatten))] :=
 LX.done2 mixed tabOk (n:=132) (ns:=[1,1,1,1,1,1,1]) (tr:=[.auto,.reg [],.dec true,.reg [.none,.none,(.callX [(100000,100000)] none (.pv (vU atV)) [(100000,(.pure ((z:List UInt32).map wordPV).flatten))]),.none,.none,(.pv (vU atV1))],.dec true,.reg [.none,.none,(.callX [(100000,100000)] none (.pv (vU atV2)) [(100000,(.pure ((z1:List UInt32).map wordPV).flatten))]),.none,.none,(.pv (vU atV3))],.dec true,.reg [],.ord [100000]]) hs hi (cj (dle_t h1) (cj h2 (cj h3 (cj (dneN_t h4) (cj h5 (cj h6 (cj (dltN_t h7) True.intro))))))) (by kernel_rfl)
theorem l11(len:Nat)(b:List UInt32)(i_5:Int)(site_100000 z:List UInt32)(atV atV1:Nat)(z1:List UInt32)(atV2 atV3:Nat){sin:Sto}(hs:sin.all (fun p=>Nat.ble fn.ntmps p.1)=true)(hi:sin.all (fun p=>gvB p.1||(Sto.get [(100000,(.pure ((z1:List UInt32).map wordPV).flatten))] p.1).isSome)=true)(h1:0≤i_5)(h2:ContractX prg 170 [.row 100000 0 len 1,.pv (vI i_5)] [(100000,(.pure ((site_100000:List UInt32).map wordPV).flatten))] (.pv (vU atV)) [(100000,(.pure ((z:List UInt32).map wordPV).flatten))])(h3:Contract prg 170 [(wordsPV b),(vI i_5)] (vU atV1))(h4:atV≠atV1)(h5:ContractX prg 170 [.row 100000 0 len 1,.pv (vI i_5)] [(100000,(.pure ((z:List UInt32).map wordPV).flatten))] (.pv (vU atV2)) [(100000,(.pure ((z1:List UInt32).map wordPV).flatten))])(h6:Contract prg 170 [(wordsPV b),(vI i_5)] (vU atV3))(h7:atV3≤atV2):Loop1 len b i_5 site_100000 sin (.pv (vI 1)) [(100000,(.pure ((z1:List UInt32).map wordPV).flatten))] :=
 LX.done2 mixed tabOk (n:=135) (ns:=[1,1,1,1,1,1,1]) (tr:=[.auto,.reg [],.dec true,.reg [.none,.none,(.callX [(100000,100000)] none (.pv (vU atV)) [(100000,(.pure ((z:List UInt32).map wordPV).flatten))]),.none,.none,(.pv (vU atV1))],.dec true,.reg [.none,.none,(.callX [(100000,100000)] none (.pv (vU atV2)) [(100000,(.pure ((z1:List UInt32).map wordPV).flatten))]),.none,.none,(.pv (vU atV3))],.dec false,.reg [],.ord [100000]]) hs hi (cj (dle_t h1) (cj h2 (cj h3 (cj (dneN_t h4) (cj h5 (cj h6 (cj (dltN_f h7) True.intro))))))) (by kernel_rfl)
theorem l12(len:Nat)(b:List UInt32)(i_5:Int)(site_100000 z:List UInt32)(atV atV1:Nat){r:EV}{sout:Sto}{sin:Sto}(hs:sin.all (fun p=>Nat.ble fn.ntmps p.1)=true)(h1:0≤i_5)(h2:ContractX prg 170 [.row 100000 0 len 1,.pv (vI i_5)] [(100000,(.pure ((site_100000:List UInt32).map wordPV).flatten))] (.pv (vU atV)) [(100000,(.pure ((z:List UInt32).map wordPV).flatten))])(h3:Contract prg 170 [(wordsPV b),(vI i_5)] (vU atV1))(h4:atV=atV1)(h5:InI64 (i_5-1))(hL:Loop1 len b (i_5-1) z sin r sout):Loop1 len b i_5 site_100000 sin r sout :=
 LX.go mixed tabOk (n:=123) (ns:=[1,1,1,1,1]) (tr:=[.auto,.reg [],.dec true,.reg [.none,.none,(.callX [(100000,100000)] none (.pv (vU atV)) [(100000,(.pure ((z:List UInt32).map wordPV).flatten))]),.none,.none,(.pv (vU atV1))],.dec false,.reg [.none,(iI (i_5-1))],.keep [0,1,5]]) hs (cj (dle_t h1) (cj h2 (cj h3 (cj (dneN_f h4) (cj (bs_sub h5) True.intro))))) (by kernel_rfl) hL
theorem l13(len:Nat)(b:List UInt32)(i_5:Int)(site_100000:List UInt32){sin:Sto}(hs:sin.all (fun p=>Nat.ble fn.ntmps p.1)=true)(hi:sin.all (fun p=>gvB p.1||(Sto.get [(100000,(.pure ((site_100000:List UInt32).map wordPV).flatten))] p.1).isSome)=true)(h1:i_5<0):Loop1 len b i_5 site_100000 sin (.pv (vI 0)) [(100000,(.pure ((site_100000:List UInt32).map wordPV).flatten))] :=
 LX.done2 mixed tabOk (n:=114) (ns:=[1]) (tr:=[.auto,.reg [],.dec false,.reg [],.ord [100000]]) hs hi (cj (dle_f h1) True.intro) (by kernel_rfl)
end linkworkref01_compareR
namespace linkworkref01_compareRR
@[reducible] noncomputable def fn:Func:=Tryz.f166
noncomputable def atK1:List Itm:=focus [0,2,0,0,2,0,0] [.code (bodyOf fn)]
def inv1(len len1:Nat)(i_5:Int)(site_100000 site_100001:List UInt32):St:=⟨[(0,(.row 100000 0 len 1)),(1,(.row 100001 0 len1 1)),(5,(eI i_5))],[(100000,(.pure ((site_100000:List UInt32).map wordPV).flatten)),(100001,(.pure ((site_100001:List UInt32).map wordPV).flatten))]⟩
@[reducible] noncomputable def Loop1(len len1:Nat)(i_5:Int)(site_100000 site_100001:List UInt32)(sin:Sto)(r:EV)(sout:Sto):Prop:=LX prg fn atK1 (inv1 len len1 i_5 site_100000 site_100001) sin r sout
theorem e0(a:List UInt32)(len:Nat)(b:List UInt32)(len1:Nat){r:EV}{sout:Sto}(h1:InI64 ((((max len len1):Nat):Int)-1))(hL:Loop1 len len1 ((((max len len1):Nat):Int)-1) a b [(100000,(.pure ((a:List UInt32).map wordPV).flatten)),(100001,(.pure ((b:List UInt32).map wordPV).flatten))] r sout):ContractX prg 166 [(.row 100000 0 len 1),(.row 100001 0 len1 1)] [(100000,(.pure ((a:List UInt32).map wordPV).flatten)),(100001,(.pure ((b:List UInt32).map wordPV).flatten))] r sout :=
 ContractX.ofL Tryz.func166 (by kernel_rfl) (LX.go mixed tabOk (n:=81) (ns:=[1,1]) (tr:=[.reg [],.reg [.none,.none,.none,.none,(iI (((max len len1):Nat):Int)),(iI ((((max len len1):Nat):Int)-1))],.keep [0,1,5]]) rfl (cj (o_maxN len len1) (cj (bs_sub h1) True.intro)) (by kernel_rfl) hL)
theorem l10(len len1:Nat)(i_5:Int)(site_100000 site_100001 z:List UInt32)(atV:Nat)(z1:List UInt32)(atV1:Nat)(z2:List UInt32)(atV2:Nat)(z3:List UInt32)(atV3:Nat){sin:Sto}(hs:sin.all (fun p=>Nat.ble fn.ntmps p.1)=true)(hi:sin.all (fun p=>gvB p.1||(Sto.get [(100000,(.pure ((z2:List UInt32).map wordPV).flatten)),(100001,(.pure ((z3:List UInt32).map wordPV).flatten))] p.1).isSome)=true)(h1:0≤i_5)(h2:ContractX prg 170 [.row 100000 0 len 1,.pv (vI i_5)] [(100000,(.pure ((site_100000:List UInt32).map wordPV).flatten))] (.pv (vU atV)) [(100000,(.pure ((z:List UInt32).map wordPV).flatten))])(h3:ContractX prg 170 [.row 100000 0 len1 1,.pv (vI i_5)] [(100000,(.pure ((site_100001:List UInt32).map wordPV).flatten))] (.pv (vU atV1)) [(100000,(.pure ((z1:List UInt32).map wordPV).flatten))])(h4:atV≠atV1)(h5:ContractX prg 170 [.row 100000 0 len 1,.pv (vI i_5)] [(100000,(.pure ((z:List UInt32).map wordPV).flatten))] (.pv (vU atV2)) [(100000,(.pure ((z2:List UInt32).map wordPV).flatten))])(h6:ContractX prg 170 [.row 100000 0 len1 1,.pv (vI i_5)] [(100000,(.pure ((z1:List UInt32).map wordPV).flatten))] (.pv (vU atV3)) [(100000,(.pure ((z3:List UInt32).map wordPV).flatten))])(h7:atV2<atV3):Loop1 len len1 i_5 site_100000 site_100001 sin (.pv (vI (-1))) [(100000,(.pure ((z2:List UInt32).map wordPV).flatten)),(100001,(.pure ((z3:List UInt32).map wordPV).flatten))] :=
 LX.done2 mixed tabOk (n:=132) (ns:=[1,1,1,1,1,1,1]) (tr:=[.auto,.reg [],.dec true,.reg [.none,.none,(.callX [(100000,100000)] none (.pv (vU atV)) [(100000,(.pure ((z:List UInt32).map wordPV).flatten))]),.none,.none,(.callX [(100001,100000)] none (.pv (vU atV1)) [(100000,(.pure ((z1:List UInt32).map wordPV).flatten))])],.dec true,.reg [.none,.none,(.callX [(100000,100000)] none (.pv (vU atV2)) [(100000,(.pure ((z2:List UInt32).map wordPV).flatten))]),.none,.none,(.callX [(100001,100000)] none (.pv (vU atV3)) [(100000,(.pure ((z3:List UInt32).map wordPV).flatten))])],.dec true,.reg [],.ord [100000,100001]]) hs hi (cj (dle_t h1) (cj h2 (cj h3 (cj (dneN_t h4) (cj h5 (cj h6 (cj (dltN_t h7) True.intro))))))) (by kernel_rfl)
theorem l11(len len1:Nat)(i_5:Int)(site_100000 site_100001 z:List UInt32)(atV:Nat)(z1:List UInt32)(atV1:Nat)(z2:List UInt32)(atV2:Nat)(z3:List UInt32)(atV3:Nat){sin:Sto}(hs:sin.all (fun p=>Nat.ble fn.ntmps p.1)=true)(hi:sin.all (fun p=>gvB p.1||(Sto.get [(100000,(.pure ((z2:List UInt32).map wordPV).flatten)),(100001,(.pure ((z3:List UInt32).map wordPV).flatten))] p.1).isSome)=true)(h1:0≤i_5)(h2:ContractX prg 170 [.row 100000 0 len 1,.pv (vI i_5)] [(100000,(.pure ((site_100000:List UInt32).map wordPV).flatten))] (.pv (vU atV)) [(100000,(.pure ((z:List UInt32).map wordPV).flatten))])(h3:ContractX prg 170 [.row 100000 0 len1 1,.pv (vI i_5)] [(100000,(.pure ((site_100001:List UInt32).map wordPV).flatten))] (.pv (vU atV1)) [(100000,(.pure ((z1:List UInt32).map wordPV).flatten))])(h4:atV≠atV1)(h5:ContractX prg 170 [.row 100000 0 len 1,.pv (vI i_5)] [(100000,(.pure ((z:List UInt32).map wordPV).flatten))] (.pv (vU atV2)) [(100000,(.pure ((z2:List UInt32).map wordPV).flatten))])(h6:ContractX prg 170 [.row 100000 0 len1 1,.pv (vI i_5)] [(100000,(.pure ((z1:List UInt32).map wordPV).flatten))] (.pv (vU atV3)) [(100000,(.pure ((z3:List UInt32).map wordPV).flatten))])(h7:atV3≤atV2):Loop1 len len1 i_5 site_100000 site_100001 sin (.pv (vI 1)) [(100000,(.pure ((z2:List UInt32).map wordPV).flatten)),(100001,(.pure ((z3:List UInt32).map wordPV).flatten))] :=
 LX.done2 mixed tabOk (n:=135) (ns:=[1,1,1,1,1,1,1]) (tr:=[.auto,.reg [],.dec true,.reg [.none,.none,(.callX [(100000,100000)] none (.pv (vU atV)) [(100000,(.pure ((z:List UInt32).map wordPV).flatten))]),.none,.none,(.callX [(100001,100000)] none (.pv (vU atV1)) [(100000,(.pure ((z1:List UInt32).map wordPV).flatten))])],.dec true,.reg [.none,.none,(.callX [(100000,100000)] none (.pv (vU atV2)) [(100000,(.pure ((z2:List UInt32).map wordPV).flatten))]),.none,.none,(.callX [(100001,100000)] none (.pv (vU atV3)) [(100000,(.pure ((z3:List UInt32).map wordPV).flatten))])],.dec false,.reg [],.ord [100000,100001]]) hs hi (cj (dle_t h1) (cj h2 (cj h3 (cj (dneN_t h4) (cj h5 (cj h6 (cj (dltN_f h7) True.intro))))))) (by kernel_rfl)
theorem l12(len len1:Nat)(i_5:Int)(site_100000 site_100001 z:List UInt32)(atV:Nat)(z1:List UInt32)(atV1:Nat){r:EV}{sout:Sto}{sin:Sto}(hs:sin.all (fun p=>Nat.ble fn.ntmps p.1)=true)(h1:0≤i_5)(h2:ContractX prg 170 [.row 100000 0 len 1,.pv (vI i_5)] [(100000,(.pure ((site_100000:List UInt32).map wordPV).flatten))] (.pv (vU atV)) [(100000,(.pure ((z:List UInt32).map wordPV).flatten))])(h3:ContractX prg 170 [.row 100000 0 len1 1,.pv (vI i_5)] [(100000,(.pure ((site_100001:List UInt32).map wordPV).flatten))] (.pv (vU atV1)) [(100000,(.pure ((z1:List UInt32).map wordPV).flatten))])(h4:atV=atV1)(h5:InI64 (i_5-1))(hL:Loop1 len len1 (i_5-1) z z1 sin r sout):Loop1 len len1 i_5 site_100000 site_100001 sin r sout :=
 LX.go mixed tabOk (n:=123) (ns:=[1,1,1,1,1]) (tr:=[.auto,.reg [],.dec true,.reg [.none,.none,(.callX [(100000,100000)] none (.pv (vU atV)) [(100000,(.pure ((z:List UInt32).map wordPV).flatten))]),.none,.none,(.callX [(100001,100000)] none (.pv (vU atV1)) [(100000,(.pure ((z1:List UInt32).map wordPV).flatten))])],.dec false,.reg [.none,(iI (i_5-1))],.keep [0,1,5]]) hs (cj (dle_t h1) (cj h2 (cj h3 (cj (dneN_f h4) (cj (bs_sub h5) True.intro))))) (by kernel_rfl) hL
theorem l13(len len1:Nat)(i_5:Int)(site_100000 site_100001:List UInt32){sin:Sto}(hs:sin.all (fun p=>Nat.ble fn.ntmps p.1)=true)(hi:sin.all (fun p=>gvB p.1||(Sto.get [(100000,(.pure ((site_100000:List UInt32).map wordPV).flatten)),(100001,(.pure ((site_100001:List UInt32).map wordPV).flatten))] p.1).isSome)=true)(h1:i_5<0):Loop1 len len1 i_5 site_100000 site_100001 sin (.pv (vI 0)) [(100000,(.pure ((site_100000:List UInt32).map wordPV).flatten)),(100001,(.pure ((site_100001:List UInt32).map wordPV).flatten))] :=
 LX.done2 mixed tabOk (n:=114) (ns:=[1]) (tr:=[.auto,.reg [],.dec false,.reg [],.ord [100000,100001]]) hs hi (cj (dle_f h1) True.intro) (by kernel_rfl)
end linkworkref01_compareRR
namespace linkworkref01_take
@[reducible] noncomputable def fn:Func:=Tryz.f167
noncomputable def atK1:List Itm:=focus [0,2,0,2,0,0] [.code (bodyOf fn)]
def inv1(len:Nat)(b:List UInt32)(borrow_4 t_9:Nat)(site_100000:List UInt32):St:=⟨[(0,(.row 100000 0 len 1)),(1,(.pv (wordsPV b))),(4,(eU borrow_4)),(8,(eI (len:Int))),(9,(eI (t_9:Int)))],[(100000,(.pure ((site_100000:List UInt32).map wordPV).flatten))]⟩
@[reducible] noncomputable def Loop1(len:Nat)(b:List UInt32)(borrow_4 t_9:Nat)(site_100000:List UInt32)(sin:Sto)(r:EV)(sout:Sto):Prop:=LX prg fn atK1 (inv1 len b borrow_4 t_9 site_100000) sin r sout
theorem e0 (a : List UInt32) (len : Nat) (b : List UInt32) {r : EV} {sout : Sto}  (hL : Loop1 len b 0 0 a [(100000, (.pure ((a : List UInt32).map wordPV).flatten))] r sout) : ContractX prg 167 [(.row 100000 0 len 1), (.pv (wordsPV b))] [(100000, (.pure ((a : List UInt32).map wordPV).flatten))] r sout :=
 ContractX.ofL Tryz.func167 (by kernel_rfl) (LX.go mixed tabOk (n:=78) (ns:=[]) (tr:=[.reg [],.reg [],.keep [0,1,4,8,9]]) rfl True.intro (by kernel_rfl) hL)
theorem l10(len:Nat)(b:List UInt32)(borrow_4 t_9:Nat)(site_100000 z:List UInt32)(atV s atV1 d d1:Nat)(w:UInt32)(z1 d2:Nat){r:EV}{sout:Sto}{sin:Sto}(hs:sin.all (fun p=>Nat.ble fn.ntmps p.1)=true)(h1:t_9<len)(h2:ContractX prg 170 [.row 100000 0 len 1,.pv (vI (t_9:Int))] [(100000,(.pure ((site_100000:List UInt32).map wordPV).flatten))] (.pv (vU atV)) [(100000,(.pure ((z:List UInt32).map wordPV).flatten))])(h3:(4294967296+atV)%18446744073709551616=s)(h4:Contract prg 170 [(wordsPV b),(vI (t_9:Int))] (vU atV1))(h5:((s:Nat)-(atV1:Nat):Int)%18446744073709551616=(d:Int))(h6:((d:Nat)-(borrow_4:Nat):Int)%18446744073709551616=(d1:Int))(h7:d1%4294967296=w.toNat)(h8:d1/2^(min 32 64)=z1)(h9:((1:Nat)-(z1:Nat):Int)%18446744073709551616=(d2:Int))(h10:t_9<z.length)(h11:(t_9+1)<9223372036854775808)(hL:Loop1 len b d2 (t_9+1) (z.set t_9 w) sin r sout):Loop1 len b borrow_4 t_9 site_100000 sin r sout :=
 LX.go mixed tabOk (n:=123) (ns:=[1,1,1,1,1,1,1,1,1,2,2,1]) (tr:=[.auto,.reg [],.dec true,.reg [],.reg [.none,.none,(.callX [(100000,100000)] none (.pv (vU atV)) [(100000,(.pure ((z:List UInt32).map wordPV).flatten))]),(iU s),.none,.none,(.pv (vU atV1)),(iU d),.none,(iU d1)],.reg [.none,.none,.none,(iW w),.none,(iU z1),(iU d2),(.nat t_9),(.cells (.pure (((z.set t_9 w):List UInt32).map wordPV).flatten))],.reg [(iI (((t_9+1):Nat):Int))],.keep [0,1,4,8,9]]) hs (cj (dltN_t h1) (cj h2 (cj (bs_add_u64 h3) (cj h4 (cj (bs_sub_u64 h5) (cj (bs_sub_u64 h6) (cj (cv_u32N h7) (cj (bs_shr_u64 (k := .u64) h8) (cj (bs_sub_u64 h9) (cj (cj (Eq.refl (((t_9:Nat):Int):Int)) h1) (cj (o_set sz_word (z:List UInt32) w h10) (cj (bs_addN h11) True.intro)))))))))))) (by kernel_rfl) hL
theorem l11(len:Nat)(b:List UInt32)(borrow_4 t_9:Nat)(site_100000:List UInt32){sin:Sto}(hs:sin.all (fun p=>Nat.ble fn.ntmps p.1)=true)(hi:sin.all (fun p=>gvB p.1||(Sto.get [(100000,(.pure ((site_100000:List UInt32).map wordPV).flatten))] p.1).isSome)=true)(h1:len≤t_9):Loop1 len b borrow_4 t_9 site_100000 sin (.pv (.tup [])) [(100000,(.pure ((site_100000:List UInt32).map wordPV).flatten))] :=
 LX.done2 mixed tabOk (n:=105) (ns:=[1]) (tr:=[.auto,.reg [],.dec false,.ord [100000]]) hs hi (cj (dltN_f h1) True.intro) (by kernel_rfl)
end linkworkref01_take
namespace linkworkref01_takeR
@[reducible] noncomputable def fn:Func:=Tryz.f167
noncomputable def atK1:List Itm:=focus [0,2,0,2,0,0] [.code (bodyOf fn)]
def inv1(len len1 borrow_4 t_9:Nat)(site_100000 site_100001:List UInt32):St:=⟨[(0,(.row 100000 0 len 1)),(1,(.row 100001 0 len1 1)),(4,(eU borrow_4)),(8,(eI (len:Int))),(9,(eI (t_9:Int)))],[(100000,(.pure ((site_100000:List UInt32).map wordPV).flatten)),(100001,(.pure ((site_100001:List UInt32).map wordPV).flatten))]⟩
@[reducible] noncomputable def Loop1(len len1 borrow_4 t_9:Nat)(site_100000 site_100001:List UInt32)(sin:Sto)(r:EV)(sout:Sto):Prop:=LX prg fn atK1 (inv1 len len1 borrow_4 t_9 site_100000 site_100001) sin r sout
theorem e0 (a : List UInt32) (len : Nat) (b : List UInt32) (len1 : Nat) {r : EV} {sout : Sto}  (hL : Loop1 len len1 0 0 a b [(100000, (.pure ((a : List UInt32).map wordPV).flatten)), (100001, (.pure ((b : List UInt32).map wordPV).flatten))] r sout) : ContractX prg 167 [(.row 100000 0 len 1), (.row 100001 0 len1 1)] [(100000, (.pure ((a : List UInt32).map wordPV).flatten)), (100001, (.pure ((b : List UInt32).map wordPV).flatten))] r sout :=
 ContractX.ofL Tryz.func167 (by kernel_rfl) (LX.go mixed tabOk (n:=78) (ns:=[]) (tr:=[.reg [],.reg [],.keep [0,1,4,8,9]]) rfl True.intro (by kernel_rfl) hL)
theorem l10(len len1 borrow_4 t_9:Nat)(site_100000 site_100001 z:List UInt32)(atV s:Nat)(z1:List UInt32)(atV1 d d1:Nat)(w:UInt32)(z2 d2:Nat){r:EV}{sout:Sto}{sin:Sto}(hs:sin.all (fun p=>Nat.ble fn.ntmps p.1)=true)(h1:t_9<len)(h2:ContractX prg 170 [.row 100000 0 len 1,.pv (vI (t_9:Int))] [(100000,(.pure ((site_100000:List UInt32).map wordPV).flatten))] (.pv (vU atV)) [(100000,(.pure ((z:List UInt32).map wordPV).flatten))])(h3:(4294967296+atV)%18446744073709551616=s)(h4:ContractX prg 170 [.row 100000 0 len1 1,.pv (vI (t_9:Int))] [(100000,(.pure ((site_100001:List UInt32).map wordPV).flatten))] (.pv (vU atV1)) [(100000,(.pure ((z1:List UInt32).map wordPV).flatten))])(h5:((s:Nat)-(atV1:Nat):Int)%18446744073709551616=(d:Int))(h6:((d:Nat)-(borrow_4:Nat):Int)%18446744073709551616=(d1:Int))(h7:d1%4294967296=w.toNat)(h8:d1/2^(min 32 64)=z2)(h9:((1:Nat)-(z2:Nat):Int)%18446744073709551616=(d2:Int))(h10:t_9<z.length)(h11:(t_9+1)<9223372036854775808)(hL:Loop1 len len1 d2 (t_9+1) (z.set t_9 w) z1 sin r sout):Loop1 len len1 borrow_4 t_9 site_100000 site_100001 sin r sout :=
 LX.go mixed tabOk (n:=123) (ns:=[1,1,1,1,1,1,1,1,1,2,2,1]) (tr:=[.auto,.reg [],.dec true,.reg [],.reg [.none,.none,(.callX [(100000,100000)] none (.pv (vU atV)) [(100000,(.pure ((z:List UInt32).map wordPV).flatten))]),(iU s),.none,.none,(.callX [(100001,100000)] none (.pv (vU atV1)) [(100000,(.pure ((z1:List UInt32).map wordPV).flatten))]),(iU d),.none,(iU d1)],.reg [.none,.none,.none,(iW w),.none,(iU z2),(iU d2),(.nat t_9),(.cells (.pure (((z.set t_9 w):List UInt32).map wordPV).flatten))],.reg [(iI (((t_9+1):Nat):Int))],.keep [0,1,4,8,9]]) hs (cj (dltN_t h1) (cj h2 (cj (bs_add_u64 h3) (cj h4 (cj (bs_sub_u64 h5) (cj (bs_sub_u64 h6) (cj (cv_u32N h7) (cj (bs_shr_u64 (k := .u64) h8) (cj (bs_sub_u64 h9) (cj (cj (Eq.refl (((t_9:Nat):Int):Int)) h1) (cj (o_set sz_word (z:List UInt32) w h10) (cj (bs_addN h11) True.intro)))))))))))) (by kernel_rfl) hL
theorem l11(len len1 borrow_4 t_9:Nat)(site_100000 site_100001:List UInt32){sin:Sto}(hs:sin.all (fun p=>Nat.ble fn.ntmps p.1)=true)(hi:sin.all (fun p=>gvB p.1||(Sto.get [(100000,(.pure ((site_100000:List UInt32).map wordPV).flatten)),(100001,(.pure ((site_100001:List UInt32).map wordPV).flatten))] p.1).isSome)=true)(h1:len≤t_9):Loop1 len len1 borrow_4 t_9 site_100000 site_100001 sin (.pv (.tup [])) [(100000,(.pure ((site_100000:List UInt32).map wordPV).flatten)),(100001,(.pure ((site_100001:List UInt32).map wordPV).flatten))] :=
 LX.done2 mixed tabOk (n:=105) (ns:=[1]) (tr:=[.auto,.reg [],.dec false,.ord [100000,100001]]) hs hi (cj (dltN_f h1) True.intro) (by kernel_rfl)
end linkworkref01_takeR
namespace linkworkref01_cut
@[reducible] noncomputable def fn:Func:=Tryz.f168
noncomputable def atK1:List Itm:=focus [0,2,0,0,0] [.code (bodyOf fn)]
def inv1(len_100000:Nat)(a:List UInt32):St:=⟨[(0,(.row 100000 0 len_100000 1))],[(100000,(.pure ((a:List UInt32).map wordPV).flatten))]⟩
@[reducible] noncomputable def Loop1(len_100000:Nat)(a:List UInt32)(sin:Sto)(r:EV)(sout:Sto):Prop:=LX prg fn atK1 (inv1 len_100000 a) sin r sout
theorem e0 (a : List UInt32) (len : Nat) {r : EV} {sout : Sto}  (hL : Loop1 len a [(100000, (.pure ((a : List UInt32).map wordPV).flatten))] r sout) : ContractX prg 168 [(.row 100000 0 len 1)] [(100000, (.pure ((a : List UInt32).map wordPV).flatten))] r sout :=
 ContractX.ofL Tryz.func168 (by kernel_rfl) (LX.go mixed tabOk (n:=75) (ns:=[]) (tr:=[.reg [],.keep [0]]) rfl True.intro (by kernel_rfl) hL)
theorem l10(len_100000:Nat)(a:List UInt32)(k:Nat)(v:UInt32)(u:Nat){r:EV}{sout:Sto}{sin:Sto}(hs:sin.all (fun p=>Nat.ble fn.ntmps p.1)=true)(h1:0<len_100000)(h2:InI64 ((len_100000:Int)-1))(h3:((len_100000:Int)-1)=(k:Int))(h4:k<len_100000)(h5:a[k]? = some v)(h6:v.toNat=0)(h7:((len_100000:Int)-1)=(u:Int))(h8:u≤len_100000)(hL:Loop1 u a sin r sout):Loop1 len_100000 a sin r sout :=
 LX.go mixed tabOk (n:=102) (ns:=[1,1,1,1,1,1,2,1,1,1,1,1,1,5]) (tr:=[.auto,.reg [.none,.none,.none,.none,.none,.none,.none,(iI ((len_100000:Int)-1)),(.nat k),(.ev (.pv (vW v))),.none,(.dec true)],.dec true,.reg [.none,.none,.none,(iI ((len_100000:Int)-1)),(.slc 0 u [])],.keep [0]]) hs (cj (dltN_t h1) (cj (dltN_t h1) (cj (dltN_t h1) (cj (dltN_t h1) (cj (bs_sub h2) (cj (dltN_t h1) (cj (cj h3 h4) (cj (dltN_t h1) (cj (o_get (enc:=wordPV) (f:=fun a=>(vW a)) (fun _=>rfl) h5) (cj (dltN_t h1) (cj (dltN_t h1) (cj (deqN_t h6) (cj (bs_sub h2) (cj (o_sr (Eq.refl (0:Int)) h7 (Or.inl (Eq.refl 0)) (Nat.zero_le u) h8) True.intro)))))))))))))) (by kernel_rfl) hL
theorem l11(len_100000:Nat)(a:List UInt32)(k:Nat)(v:UInt32){sin:Sto}(hs:sin.all (fun p=>Nat.ble fn.ntmps p.1)=true)(hi:sin.all (fun p=>gvB p.1||(Sto.get [(100000,(.pure (((a.take len_100000):List UInt32).map wordPV).flatten))] p.1).isSome)=true)(h1:0<len_100000)(h2:InI64 ((len_100000:Int)-1))(h3:((len_100000:Int)-1)=(k:Int))(h4:k<len_100000)(h5:a[k]? = some v)(h6:v.toNat≠0):Loop1 len_100000 a sin (.row 100000 0 len_100000 1) [(100000,(.pure (((a.take len_100000):List UInt32).map wordPV).flatten))] :=
 LX.done2 mixed tabOk (n:=108) (ns:=[1,1,1,1,1,1,2,1,1,1,1,1,1]) (tr:=[.auto,.reg [.none,.none,.none,.none,.none,.none,.none,(iI ((len_100000:Int)-1)),(.nat k),(.ev (.pv (vW v))),.none,(.dec true)],.dec false,.reg [],.cut 100000 (len_100000*1) (((a.take len_100000):List UInt32).map wordPV).flatten,.ord [100000]]) hs hi (cj (dltN_t h1) (cj (dltN_t h1) (cj (dltN_t h1) (cj (dltN_t h1) (cj (bs_sub h2) (cj (dltN_t h1) (cj (cj h3 h4) (cj (dltN_t h1) (cj (o_get (enc:=wordPV) (f:=fun a=>(vW a)) (fun _=>rfl) h5) (cj (dltN_t h1) (cj (dltN_t h1) (cj (deqN_f h6) (cj (o_cut sz_word (a:List UInt32) len_100000) True.intro))))))))))))) (by kernel_rfl)
theorem l12(len_100000:Nat)(a:List UInt32){sin:Sto}(hs:sin.all (fun p=>Nat.ble fn.ntmps p.1)=true)(hi:sin.all (fun p=>gvB p.1||(Sto.get [(100000,(.pure (((a.take len_100000):List UInt32).map wordPV).flatten))] p.1).isSome)=true)(h1:len_100000≤0):Loop1 len_100000 a sin (.row 100000 0 len_100000 1) [(100000,(.pure (((a.take len_100000):List UInt32).map wordPV).flatten))] :=
 LX.done2 mixed tabOk (n:=108) (ns:=[1,1,1,1,1,1,1,1,1]) (tr:=[.auto,.reg [.none,.none,.none,.none,.skip,.skip,.skip,.skip,.skip,.skip,.skip,(.dec false)],.auto,.reg [],.cut 100000 (len_100000*1) (((a.take len_100000):List UInt32).map wordPV).flatten,.ord [100000]]) hs hi (cj (dltN_f h1) (cj (dltN_f h1) (cj (dltN_f h1) (cj (dltN_f h1) (cj (dltN_f h1) (cj (dltN_f h1) (cj (dltN_f h1) (cj (dltN_f h1) (cj (o_cut sz_word (a:List UInt32) len_100000) True.intro))))))))) (by kernel_rfl)
end linkworkref01_cut
namespace linkworkref01_bits
@[reducible] noncomputable def fn:Func:=Tryz.f169
noncomputable def atK1:List Itm:=focus [0,2,0,0,2,1,2,0,2,0,0,2,0,0] [.code (bodyOf fn)]
def inv1(n_3:Int)(x_4:UInt32):St:=⟨[(3,(eI n_3)),(4,(eW x_4))],[]⟩
@[reducible] noncomputable def Loop1(n_3:Int)(x_4:UInt32)(r:PV):Prop:=L prg fn atK1 (inv1 n_3 x_4) r
theorem e0(a:List UInt32)(h1:a.length=0):Contract prg 169 [(wordsPV a)] (vI 0) :=
 Contract.ofL Tryz.func169 (by kernel_rfl) (L.done mixed tabOk (n:=84) (ns:=[1,1]) (tr:=[.reg [],.reg [.none,(iI (a.length:Int))],.dec true,.reg []]) (cj (o_len wordPV a) (cj (deqN_t h1) True.intro)) (by kernel_rfl))
theorem e1(a:List UInt32)(k:Nat)(v:UInt32){r:PV}(h1:a.length≠0)(h2:InI64 ((a.length:Int)-1))(h3:InI64 (32*((a.length:Int)-1)))(h4:((a.length:Int)-1)=(k:Int))(h5:a[k]? = some v)(hL:Loop1 (32*((a.length:Int)-1)) v r):Contract prg 169 [(wordsPV a)] r :=
 Contract.ofL Tryz.func169 (by kernel_rfl) (L.go mixed tabOk (n:=102) (ns:=[1,1,1,1,1,1,1,3]) (tr:=[.reg [],.reg [.none,(iI (a.length:Int))],.dec false,.reg [.none,(iI (a.length:Int)),(iI ((a.length:Int)-1)),(iI (32*((a.length:Int)-1)))],.reg [.none,.none,(iI (a.length:Int)),(iI ((a.length:Int)-1)),(.row k (wordPV v))],.keep [3,4]]) (cj (o_len wordPV a) (cj (deqN_f h1) (cj (o_len wordPV a) (cj (bs_sub h2) (cj (bs_mul h3) (cj (o_len wordPV a) (cj (bs_sub h2) (cj (o_at wordPV h4 h5) True.intro)))))))) (by kernel_rfl) hL)
theorem l10(n_3:Int)(x_4 z:UInt32){r:PV}(h1:0<x_4.toNat)(h2:InI64 (n_3+1))(h3:x_4.toNat/2^(min 1 32)=z.toNat)(hL:Loop1 (n_3+1) z r):Loop1 n_3 x_4 r :=
 L.go mixed tabOk (n:=135) (ns:=[1,1,1]) (tr:=[.auto,.reg [],.dec true,.reg [.none,(iI (n_3+1))],.reg [.none,(iW z)],.keep [3,4]]) (cj (dltN_t h1) (cj (bs_add h2) (cj (bs_shr_u32 (k := .u64) h3) True.intro))) (by kernel_rfl) hL
theorem l11(n_3:Int)(x_4:UInt32)(h1:x_4.toNat≤0):Loop1 n_3 x_4 (vI n_3) :=
 L.done mixed tabOk (n:=135) (ns:=[1]) (tr:=[.auto,.reg [],.dec false,.reg []]) (cj (dltN_f h1) True.intro) (by kernel_rfl)
end linkworkref01_bits
namespace linkworkref01_at
theorem e0(a:List UInt32)(i:Int)(k:Nat)(v:UInt32)(h1:i<(a.length:Int))(h2:i=(k:Int))(h3:a[k]? = some v):Contract prg 170 [(wordsPV a),(vI i)] (vU v.toNat) :=
 Contract.ofL Tryz.func170 (by kernel_rfl) (L.done mixed tabOk (n:=84) (ns:=[1,1,3,1]) (tr:=[.reg [],.reg [.none,.none,(iI (a.length:Int))],.dec true,.reg [.none,.none,(.row k (wordPV v)),.none,(iU v.toNat)]]) (cj (o_len wordPV a) (cj (dlt_t h1) (cj (o_at wordPV h2 h3) (cj (cv_w v) True.intro)))) (by kernel_rfl))
theorem e1(a:List UInt32)(i:Int)(h1:(a.length:Int)≤i):Contract prg 170 [(wordsPV a),(vI i)] (vU 0) :=
 Contract.ofL Tryz.func170 (by kernel_rfl) (L.done mixed tabOk (n:=87) (ns:=[1,1]) (tr:=[.reg [],.reg [.none,.none,(iI (a.length:Int))],.dec false,.reg []]) (cj (o_len wordPV a) (cj (dlt_f h1) True.intro)) (by kernel_rfl))
end linkworkref01_at
namespace linkworkref01_atR
theorem e0(a:List UInt32)(len:Nat)(i:Int)(k:Nat)(v:UInt32)(h1:i<(len:Int))(h2:i=(k:Int))(h3:k<len)(h4:a[k]? = some v):ContractX prg 170 [(.row 100000 0 len 1),(eI i)] [(100000,(.pure ((a:List UInt32).map wordPV).flatten))] (.pv (vU v.toNat)) [(100000,(.pure ((a:List UInt32).map wordPV).flatten))] :=
 ContractX.ofL Tryz.func170 (by kernel_rfl) (LX.done mixed tabOk (n:=84) (ns:=[1,2,1,1]) (tr:=[.reg [],.reg [],.dec true,.reg [.none,.none,(.nat k),(.ev (.pv (vW v))),(iU v.toNat)],.ord [100000]]) rfl (cj (dlt_t h1) (cj (cj h2 h3) (cj (o_get (enc:=wordPV) (f:=fun a=>(vW a)) (fun _=>rfl) h4) (cj (cv_w v) True.intro)))) (by kernel_rfl))
theorem e1(a:List UInt32)(len:Nat)(i:Int)(h1:(len:Int)≤i):ContractX prg 170 [(.row 100000 0 len 1),(eI i)] [(100000,(.pure ((a:List UInt32).map wordPV).flatten))] (.pv (vU 0)) [(100000,(.pure ((a:List UInt32).map wordPV).flatten))] :=
 ContractX.ofL Tryz.func170 (by kernel_rfl) (LX.done mixed tabOk (n:=87) (ns:=[1]) (tr:=[.reg [],.reg [],.dec false,.reg [],.ord [100000]]) rfl (cj (dlt_f h1) True.intro) (by kernel_rfl))
end linkworkref01_atR
end Go.Proofs.YtboilcfohmmpbaaGreatDoor.Sym.Path
namespace Go.Proofs.YtboilcfohmmpbaaGreatDoor.Sym
open Go Path
set_option linter.unusedVariables false
abbrev ws(a:Words):SC := .pure ((a:List UInt32).map wordPV).flatten
namespace CRa
open CInt
theorem Valid(a:AWhole)(h:Fit a.mag):Contract prg 158 [a.pv] (vB a.valid):=by
 unfold AWhole.valid
 rw[isEmpty_len]
 by_cases h0:a.mag.length=0
 ·simp only[h0,decide_true,cond_true]
  exact linkworkref01_Valid.e0 a h0
 ·simp only[h0,decide_false,cond_false]
  obtain⟨v,hv⟩:∃v,a.mag[a.mag.length-1]? = some v:=⟨_,List.getElem?_eq_getElem (by omega)⟩
  have:=linkworkref01_Valid.e1 a (a.mag.length-1) v h0 (by unfold InI64;omega) (by omega) hv
  have e:cn a.mag=((v.toNat:Int) != 0):=by
   have h1:=cn_last hv
   by_cases h2:v.toNat=0
   ·have h3:((v.toNat:Int) != 0)=false:=by simp[h2]
    rw[h3]
    cases hc:cn a.mag with
    |true=>exact absurd h2 (h1.1 hc)
    |false=>rfl
   ·have h3:((v.toNat:Int) != 0)=true:=by simp;omega
    rw[h3];exact h1.2 h2
  rw[e];exact this
theorem mag(a:AWhole)(h:Fit a.mag):Contract prg 137 [a.pv] (wordsPV (words a.val.natAbs)):=by
 rw[mag_val]
 cases hv:a.valid with
 |false=>exact linkworkref01_mag.e0 a a.valid (Valid a h) hv
 |true=>exact linkworkref01_mag.e1 a a.valid (Valid a h) hv
theorem neg(a:AWhole)(h:Fit a.mag):Contract prg 135 [a.pv] (vB (decide (a.val<0))):=by
 rw[neg_val]
 cases hv:a.valid with
 |false=>exact linkworkref01_neg.e1 a a.valid (Valid a h) hv
 |true=>rw[Bool.true_and];exact linkworkref01_neg.e0 a a.valid (Valid a h) hv
theorem trimmed{l:Words}{n:Nat}{v:UInt32}(hv:l[n]? = some v)(h0:v.toNat=0)(hn:n+1=l.length):nat (l.take n)=nat l:=by
 have:=nat_take_succ hv
 rw[nat_take_all (by omega),h0] at this
 omega
theorem trim(a:Words)(h:a.length≤35184372088832):Contract prg 146 [wordsPV a] (wordsPV (words (nat a))):=by
 have loop:∀(n:Nat) (l:Words),l.length=n→n≤35184372088832→linkworkref01_trim.Loop1 l (wordsPV (words (nat l))):=by
  intro n
  induction n with
  |zero =>
   intro l hl _
   have:l=[]:=List.eq_nil_of_length_eq_zero hl
   subst this
   exact linkworkref01_trim.l12 [] (by simp)
  |succ n ih =>
   intro l hl hb
   obtain⟨v,hv⟩:∃v,l[n]? = some v:=⟨_,List.getElem?_eq_getElem (by omega)⟩
   by_cases h0:v.toNat=0
   ·refine linkworkref01_trim.l10 l n v n (by omega) (by unfold InI64;omega) (by omega) (by omega) hv h0 (by omega) (by omega) ?_
    have:=ih (l.take n) (by simp;omega) (by omega)
    rwa[trimmed hv h0 hl.symm] at this
   ·rw[words_of ((cn_last (v:=v) (by rw[hl];exact hv)).2 h0) rfl]
    exact linkworkref01_trim.l11 l n v (by omega) (by unfold InI64;omega) (by omega) (by omega) hv h0
 exact linkworkref01_trim.e0 a (by simp;omega) (loop _ a rfl h)
theorem trimX(a:Words)(h:a.length≤35184372088832):ContractX prg 146 [.pv (wordsPV a)] [] (.row 0 0 (words (nat a)).length 1) [(0,ws (words (nat a)))]:=by
 have loop:∀(n:Nat) (l:Words),l.length=n→n≤35184372088832→linkworkref01_trimX.Loop1 l [] (.row 0 0 (words (nat l)).length 1) [(0,ws (words (nat l)))]:=by
  intro n
  induction n with
  |zero =>
   intro l hl _
   have:l=[]:=List.eq_nil_of_length_eq_zero hl
   subst this
   exact linkworkref01_trimX.l12 [] rfl rfl (by simp)
  |succ n ih =>
   intro l hl hb
   obtain⟨v,hv⟩:∃v,l[n]? = some v:=⟨_,List.getElem?_eq_getElem (by omega)⟩
   by_cases h0:v.toNat=0
   ·refine linkworkref01_trimX.l10 l n v n rfl (by omega) (by unfold InI64;omega) (by omega) (by omega) hv h0 (by omega) (by omega) ?_
    have:=ih (l.take n) (by simp;omega) (by omega)
    rwa[trimmed hv h0 hl.symm] at this
   ·rw[words_of ((cn_last (v:=v) (by rw[hl];exact hv)).2 h0) rfl]
    exact linkworkref01_trimX.l11 l n v rfl rfl (by omega) (by unfold InI64;omega) (by omega) (by omega) hv h0
 exact linkworkref01_trimX.e0 a (by simp;omega) (loop _ a rfl h)
theorem cut(a:Words)(h:a.length≤35184372088832):ContractX prg 168 [.row 100000 0 a.length 1] [(100000,ws a)] (.row 100000 0 (words (nat a)).length 1) [(100000,ws (words (nat a)))]:=by
 have loop:∀n:Nat,n≤a.length→nat (a.take n)=nat a→linkworkref01_cut.Loop1 n a [(100000,ws a)] (.row 100000 0 (words (nat a)).length 1) [(100000,ws (words (nat a)))]:=by
  intro n
  induction n with
  |zero =>
   intro _ h2
   have:nat a=0:=by rw[←h2];rfl
   rw[this,words_zero]
   have:=linkworkref01_cut.l12 0 a (sin:=[(100000,ws a)]) rfl rfl (Nat.le_refl 0)
   exact this
  |succ n ih =>
   intro h1 h2
   obtain⟨v,hv⟩:∃v,a[n]? = some v:=⟨_,List.getElem?_eq_getElem (by omega)⟩
   by_cases h0:v.toNat=0
   ·refine linkworkref01_cut.l10 _ a n v n rfl (by omega) (by unfold InI64;omega) (by omega) (by omega) hv h0 (by omega) (by omega) (ih (by omega) ?_)
    rw[nat_take_succ hv,h0] at h2
    omega
   ·have e:words (nat a)=a.take (n+1):=by
     refine words_of ?_ h2
     refine(cn_last (v:=v) ?_).2 h0
     rw[List.length_take,Nat.min_eq_left h1,Nat.add_sub_cancel,List.getElem?_take,if_pos (by omega)]
     exact hv
    have:=linkworkref01_cut.l11 (n+1) a n v (sin:=[(100000,ws a)]) rfl rfl (by omega) (by unfold InI64;omega) (by omega) (by omega) hv h0
    rw[e,List.length_take,Nat.min_eq_left h1]
    exact this
 exact linkworkref01_cut.e0 a a.length (loop a.length (Nat.le_refl _) (nat_take_all (Nat.le_refl _)))
theorem form(neg:Bool)(m:Words)(h:m.length≤35184372088832):Contract prg 116 [vB neg,wordsPV m] (Sym.whole (bif neg then -(nat m:Int) else (nat m:Int))).pv:=by
 have ht:=trim m h
 by_cases h0:nat m=0
 ·have:=linkworkref01_form.e0 neg m _ ht (by rw[h0,words_zero];rfl)
  rw[h0]
  cases neg<;>exact this
 ·have hl:(words (nat m)).length≠0:=by rw[Ne,words_len0];exact h0
  have:=linkworkref01_form.e1 neg m _ ht hl
  cases neg with
  |false =>
   have e:decide ((nat m:Int)<0)=false:=by simp
   simp only[Sym.whole,cond_false,e,Int.natAbs_natCast]
   exact this
  |true =>
   have e:decide (-(nat m:Int)<0)=true:=by simp;omega
   simp only[Sym.whole,cond_true,e,Int.natAbs_neg,Int.natAbs_natCast]
   exact this
theorem at'(a:Words)(i:Nat):Contract prg 170 [wordsPV a,vI (i:Int)] (vU (wd a i)):=by
 unfold wd
 cases h:a[i]? with
 |none =>
  have:=List.getElem?_eq_none_iff.1 h
  exact linkworkref01_at.e1 a i (by omega)
 |some v =>
  have:=(List.getElem?_eq_some_iff.1 h).1
  exact linkworkref01_at.e0 a i i v (by omega) rfl h
theorem atR(a:Words)(i:Nat)(len:Nat)(hl:len=a.length):ContractX prg 170 [.row 100000 0 len 1,.pv (vI (i:Int))] [(100000,ws a)] (.pv (vU (wd a i))) [(100000,ws a)]:=by
 subst hl
 unfold wd
 cases h:a[i]? with
 |none =>
  have:=List.getElem?_eq_none_iff.1 h
  exact linkworkref01_atR.e1 a a.length i (by omega)
 |some v =>
  have:=(List.getElem?_eq_some_iff.1 h).1
  exact linkworkref01_atR.e0 a a.length i i v (by omega) rfl this h
def Alike(a b:Words)(n:Nat):Prop:=∀q,n≤q→wd a q=wd b q
theorem nat_wd:∀(n:Nat) (a b:Words),a.length≤n→b.length≤n→(∀q,wd a q=wd b q)→nat a=nat b
 |0,a,b,ha,hb,_=>by
  have h1:a=[]:=List.eq_nil_of_length_eq_zero (by omega)
  have h2:b=[]:=List.eq_nil_of_length_eq_zero (by omega)
  rw[h1,h2]
 |n+1,a,b,ha,hb,h=>by
  have h1:=nat_drop_wd a 0
  have h2:=nat_drop_wd b 0
  have hw:∀(c:Words) (q:Nat),wd (c.drop 1) q=wd c (q+1):=fun c q=>by unfold wd;rw[List.getElem?_drop,Nat.add_comm]
  have:=nat_wd n (a.drop 1) (b.drop 1) (by simp;omega) (by simp;omega) (fun q=>by rw[hw,hw];exact h (q+1))
  simp only[List.drop_zero,Nat.zero_add] at h1 h2
  rw[h1,h2,this,h 0]
theorem alike_drop{a b:Words}{n:Nat}(h:Alike a b n):nat (a.drop n)=nat (b.drop n):=by
 refine nat_wd (max (a.drop n).length (b.drop n).length) _ _ (Nat.le_max_left _ _) (Nat.le_max_right _ _) (fun q => ?_)
 have:=h (n+q) (by omega)
 unfold wd at this ⊢
 rw[List.getElem?_drop,List.getElem?_drop];exact this
theorem nat_wd3(a:Words)(k:Nat):nat a=nat (a.take k)+4294967296^k*wd a k+4294967296^(k+1)*nat (a.drop (k+1)):=by
 by_cases h:k<a.length
 ·have hv:=List.getElem?_eq_getElem h
  rw[wd_some hv];exact nat_three a k hv
 ·rw[nat_take_all (by omega),wd_none (by omega),List.drop_of_length_le (by omega),show nat []=0 from rfl,Nat.mul_zero,Nat.mul_zero,Nat.add_zero]
theorem cmp_at{a b:Words}{k:Nat}(h:Alike a b (k+1))(hlt:wd a k<wd b k):nat a<nat b:=by
 rw[nat_wd3 a k,nat_wd3 b k,alike_drop h]
 have h1:=nat_lt (a.take k)
 have h2:=pow_le (show (a.take k).length≤k by simp;omega)
 have h3:4294967296^k*(wd a k+1)≤4294967296^k*wd b k:=Nat.mul_le_mul_left _ hlt
 rw[Nat.mul_add] at h3
 omega
theorem alike_end{a b:Words}{n:Nat}(ha:a.length≤n)(hb:b.length≤n):Alike a b n:=fun q hq=>by rw[wd_none (by omega),wd_none (by omega)]
theorem alike_all{a b:Words}(h:Alike a b 0):nat a=nat b:=by
 have:=alike_drop h
 simpa using this
theorem alike_step{a b:Words}{n:Nat}(h:Alike a b (n+1))(he:wd a n=wd b n):Alike a b n:=fun q hq=>by
 by_cases hqn:q=n
 ·rw[hqn];exact he
 ·exact h q (by omega)
theorem compare(a b:Words)(ha:a.length<4611686018427387904)(hb:b.length<4611686018427387904):Contract prg 166 [wordsPV a,wordsPV b] (vI (cmpI (nat a) (nat b))):=by
 have loop:∀n:Nat,n<4611686018427387904→Alike a b n→linkworkref01_compare.Loop1 a b ((n:Int)-1) (vI (cmpI (nat a) (nat b))):=by
  intro n
  induction n with
  |zero =>
   intro _ hd
   rw[cmpI_eq (by rw[alike_all hd])]
   exact linkworkref01_compare.l13 a b _ (by omega)
  |succ n ih =>
   intro hn hd
   have e:((n+1:Nat):Int)-1=(n:Int):=by omega
   have h1:=at' a n
   have h2:=at' b n
   rw[e]
   by_cases he:wd a n=wd b n
   ·exact linkworkref01_compare.l12 a b _ _ _ (by omega) h1 h2 he (by unfold InI64;omega) (ih (by omega) (alike_step hd he))
   ·by_cases hlt:wd a n<wd b n
    ·rw[cmpI_lt (by have:=cmp_at hd hlt;omega)]
     exact linkworkref01_compare.l10 a b _ _ _ _ _ (by omega) h1 h2 he h1 h2 hlt
    ·rw[cmpI_gt (by have:=cmp_at (a:=b) (b:=a) (fun q hq=>(hd q hq).symm) (show wd b n<wd a n by omega);omega)]
     exact linkworkref01_compare.l11 a b _ _ _ _ _ (by omega) h1 h2 he h1 h2 (by omega)
 exact linkworkref01_compare.e0 a b (by unfold InI64;omega) (loop _ (by omega) (alike_end (Nat.le_max_left _ _) (Nat.le_max_right _ _)))
theorem compareR(a b:Words)(len:Nat)(hl:len=a.length)(ha:a.length<4611686018427387904)(hb:b.length<4611686018427387904) :
  ContractX prg 166 [.row 100000 0 len 1,.pv (wordsPV b)] [(100000,ws a)] (.pv (vI (cmpI (nat a) (nat b)))) [(100000,ws a)]:=by
 have loop:∀n:Nat,n<4611686018427387904→Alike a b n→linkworkref01_compareR.Loop1 len b ((n:Int)-1) a [(100000,ws a)] (.pv (vI (cmpI (nat a) (nat b)))) [(100000,ws a)]:=by
  intro n
  induction n with
  |zero =>
   intro _ hd
   rw[cmpI_eq (by rw[alike_all hd])]
   exact linkworkref01_compareR.l13 len b _ a rfl rfl (by omega)
  |succ n ih =>
   intro hn hd
   have e:((n+1:Nat):Int)-1=(n:Int):=by omega
   have h1:=atR a n len hl
   have h2:=at' b n
   rw[e]
   by_cases he:wd a n=wd b n
   ·exact linkworkref01_compareR.l12 len b _ a a _ _ rfl (by omega) h1 h2 he (by unfold InI64;omega) (ih (by omega) (alike_step hd he))
   ·by_cases hlt:wd a n<wd b n
    ·rw[cmpI_lt (by have:=cmp_at hd hlt;omega)]
     exact linkworkref01_compareR.l10 len b _ a a _ _ a _ _ rfl rfl (by omega) h1 h2 he h1 h2 hlt
    ·rw[cmpI_gt (by have:=cmp_at (a:=b) (b:=a) (fun q hq=>(hd q hq).symm) (show wd b n<wd a n by omega);omega)]
     exact linkworkref01_compareR.l11 len b _ a a _ _ a _ _ rfl rfl (by omega) h1 h2 he h1 h2 (by omega)
 exact linkworkref01_compareR.e0 a len b (by unfold InI64;omega) (loop _ (by omega) (alike_end (by omega) (Nat.le_max_right _ _)))
theorem compareRR(a b:Words)(len len1:Nat)(hl:len=a.length)(hl1:len1=b.length)(ha:a.length<4611686018427387904)(hb:b.length<4611686018427387904) :
  ContractX prg 166 [.row 100000 0 len 1,.row 100001 0 len1 1] [(100000,ws a),(100001,ws b)] (.pv (vI (cmpI (nat a) (nat b)))) [(100000,ws a),(100001,ws b)]:=by
 have loop:∀n:Nat,n<4611686018427387904→Alike a b n→linkworkref01_compareRR.Loop1 len len1 ((n:Int)-1) a b [(100000,ws a),(100001,ws b)] (.pv (vI (cmpI (nat a) (nat b)))) [(100000,ws a),(100001,ws b)]:=by
  intro n
  induction n with
  |zero =>
   intro _ hd
   rw[cmpI_eq (by rw[alike_all hd])]
   exact linkworkref01_compareRR.l13 len len1 _ a b rfl rfl (by omega)
  |succ n ih =>
   intro hn hd
   have e:((n+1:Nat):Int)-1=(n:Int):=by omega
   have h1:=atR a n len hl
   have h2:=atR b n len1 hl1
   rw[e]
   by_cases he:wd a n=wd b n
   ·exact linkworkref01_compareRR.l12 len len1 _ a b a _ b _ rfl (by omega) h1 h2 he (by unfold InI64;omega) (ih (by omega) (alike_step hd he))
   ·by_cases hlt:wd a n<wd b n
    ·rw[cmpI_lt (by have:=cmp_at hd hlt;omega)]
     exact linkworkref01_compareRR.l10 len len1 _ a b a _ b _ a _ b _ rfl rfl (by omega) h1 h2 he h1 h2 hlt
    ·rw[cmpI_gt (by have:=cmp_at (a:=b) (b:=a) (fun q hq=>(hd q hq).symm) (show wd b n<wd a n by omega);omega)]
     exact linkworkref01_compareRR.l11 len len1 _ a b a _ b _ a _ b _ rfl rfl (by omega) h1 h2 he h1 h2 (by omega)
 exact linkworkref01_compareRR.e0 a len b len1 (by unfold InI64;omega) (loop _ (by omega) (alike_end (by omega) (by omega)))
theorem nat_snoc(l:Words)(w:UInt32):nat (l++[w])=nat l+4294967296^l.length*w.toNat:=by
 rw[nat_append];simp[nat]
theorem plus(a b:Words)(ha:a.length≤2199023255552)(hb:b.length≤2199023255552):Contract prg 144 [wordsPV a,wordsPV b] (wordsPV (words (nat a+nat b))):=by
 have loop:∀(j t carry:Nat) (site:Words),max a.length b.length+1-t=j→t≤max a.length b.length+1→site.length=t→carry≤1 →
   nat site+4294967296^t*carry=nat (a.take t)+nat (b.take t)→linkworkref01_plus.Loop1 a b site carry t (wordsPV (words (nat a+nat b))):=by
  intro j
  induction j with
  |zero =>
   intro t carry site hj ht hs hc hinv
   have hte:t=max a.length b.length+1:=by omega
   have hnat:nat site=nat a+nat b:=by
    rw[nat_take_all (by omega),nat_take_all (by omega)] at hinv
    have h1:=nat_lt a
    have h2:=nat_lt b
    have h3:=pow_le (show a.length≤t-1 by omega)
    have h4:=pow_le (show b.length≤t-1 by omega)
    have h5:(4294967296:Nat)^t=4294967296^(t-1)*4294967296:=by rw[←Nat.pow_succ];congr 1;omega
    have hc0:carry=0:=by
     cases carry with
     |zero=>rfl
     |succ c =>
      have h6:4294967296^t*1≤4294967296^t*(c+1):=Nat.mul_le_mul_left _ (by omega)
      omega
    subst hc0;simpa using hinv
   have:=linkworkref01_plus.l11 a b site carry t (words (nat site)) (by omega) (trim site (by omega))
   rwa[hnat] at this
  |succ j ih =>
   intro t carry site hj ht hs hc hinv
   have h1:=wd_lt a t
   have h2:=wd_lt b t
   obtain⟨w,hw⟩:=w_ex ((wd a t+wd b t+carry)%4294967296) (by omega)
   have e32:(2:Nat)^min 32 64=4294967296:=by decide
   refine linkworkref01_plus.l10 a b site carry t _ _ (wd a t+wd b t) (wd a t+wd b t+carry) w ((wd a t+wd b t+carry)/4294967296) (by omega) (at' a t) (at' b t) (by omega) (by omega) hw.symm (by simp;omega) (by rw[e32]) (by omega) ?_
   refine ih (t+1) _ (site++[w]) (by omega) (by omega) (by simpa using hs) (by omega) ?_
   rw[nat_snoc,hs,nat_take_wd a t,nat_take_wd b t,hw,Nat.pow_succ,Nat.mul_assoc]
   have h6:4294967296^t*((wd a t+wd b t+carry)%4294967296)+4294967296^t*(4294967296*((wd a t+wd b t+carry)/4294967296))=4294967296^t*carry+4294967296^t*wd a t+4294967296^t*wd b t:=by
    rw[←Nat.mul_add,←Nat.mul_add,←Nat.mul_add]
    congr 1
    omega
   omega
 exact linkworkref01_plus.e0 a b (by omega) (loop _ 0 0 _ rfl (by omega) rfl (by omega) (by simp[nat]))
theorem minus_step{p q borrow:Nat}(hp:p<4294967296)(hq:q<4294967296)(hb:borrow≤1) :
  ∃s d d1 x z nb:Nat,(4294967296+p)%18446744073709551616=s∧((s:Nat)-(q:Nat):Int)%18446744073709551616=(d:Int)∧((d:Nat)-(borrow:Nat):Int)%18446744073709551616=(d1:Int)∧d1%4294967296=x∧d1/2^min 32 64=z ∧
   ((1:Nat)-(z:Nat):Int)%18446744073709551616=(nb:Int)∧nb≤1∧x<4294967296∧x+q+borrow=p+4294967296*nb:=by
 have e:(2:Nat)^min 32 64=4294967296:=by decide
 rw[e]
 refine⟨4294967296+p,4294967296+p-q,4294967296+p-q-borrow,_,_,1-(4294967296+p-q-borrow)/4294967296,by omega,by omega,by omega,rfl,rfl,?_,?_,?_,?_⟩
 ·have h1:(4294967296+p-q-borrow)/4294967296≤1:=by omega
  generalize (4294967296+p-q-borrow)/4294967296=u at h1 ⊢
  omega
 ·omega
 ·omega
 ·by_cases h:q+borrow≤p
  ·have h1:(4294967296+p-q-borrow)/4294967296=1:=by omega
   rw[h1];omega
  ·have h1:(4294967296+p-q-borrow)/4294967296=0:=by omega
   rw[h1];omega
theorem minus(a b:Words)(ha:a.length≤2199023255552)(hab:nat b≤nat a):Contract prg 145 [wordsPV a,wordsPV b] (wordsPV (words (nat a-nat b))):=by
 have loop:∀(j t borrow:Nat) (site:Words),a.length-t=j→t≤a.length→site.length=t→borrow≤1 →
   nat site+nat (b.take t)=nat (a.take t)+4294967296^t*borrow→linkworkref01_minus.Loop1 a b site borrow t (wordsPV (words (nat a-nat b))):=by
  intro j
  induction j with
  |zero =>
   intro t borrow site hj ht hs hc hinv
   have hte:t=a.length:=by omega
   have hnat:nat site=nat a-nat b:=by
    subst hte
    rw[nat_take_all (l:=a) (by omega)] at hinv
    have h1:=nat_lt a
    have h2:=nat_lt site
    rw[hs] at h2
    have h3:nat (b.take a.length)=nat b:=by
     by_cases hl:b.length≤a.length
     ·exact nat_take_all hl
     ·have h4:=nat_split b a.length (by omega)
      have h5:nat (b.drop a.length)=0:=by
       refine Nat.eq_zero_of_not_pos fun hp => ?_
       have:=Nat.mul_le_mul_left (4294967296^a.length) hp
       omega
      rw[h5] at h4;omega
    have hb0:borrow=0:=by
     refine Nat.eq_zero_of_not_pos fun hp => ?_
     have:=Nat.mul_le_mul_left (4294967296^a.length) hp
     omega
    subst hb0
    omega
   have:=linkworkref01_minus.l11 a b site borrow t (words (nat site)) (by omega) (trim site (by omega))
   rwa[hnat] at this
  |succ j ih =>
   intro t borrow site hj ht hs hc hinv
   obtain⟨s,d,d1,x,z,nb,g1,g2,g3,g4,g5,g6,g7,g8,g9⟩:=minus_step (wd_lt a t) (wd_lt b t) hc
   obtain⟨w,hw⟩:=w_ex x g8
   refine linkworkref01_minus.l10 a b site borrow t _ s _ d d1 w z nb (by omega) (at' a t) g1 (at' b t) g2 g3 (by omega) (by simp;omega) g5 g6 (by omega) ?_
   refine ih (t+1) nb (site++[w]) (by omega) (by omega) (by simpa using hs) g7 ?_
   rw[nat_snoc,hs,nat_take_wd a t,nat_take_wd b t,hw,Nat.pow_succ,Nat.mul_assoc]
   have h6:4294967296^t*x+4294967296^t*wd b t+4294967296^t*borrow=4294967296^t*wd a t+4294967296^t*(4294967296*nb):=by
    rw[←Nat.mul_add,←Nat.mul_add,←Nat.mul_add,g9]
   omega
 exact linkworkref01_minus.e0 a b (loop _ 0 0 _ rfl (by omega) rfl (by omega) (by simp[nat]))
theorem take_end{a b U:Words}{borrow:Nat}(hl:U.length=a.length)(hab:nat b≤nat a)(hinv:nat (U.take a.length)+nat (b.take a.length)=nat (a.take a.length)+4294967296^a.length*borrow):nat U=nat a-nat b:=by
 rw[nat_take_all (by omega),nat_take_all (l:=a) (by omega)] at hinv
 have h1:=nat_lt a
 have h2:=nat_lt U
 rw[hl] at h2
 have h3:nat (b.take a.length)=nat b:=by
  by_cases hl:b.length≤a.length
  ·exact nat_take_all hl
  ·have h4:=nat_split b a.length (by omega)
   have h5:nat (b.drop a.length)=0:=by
    refine Nat.eq_zero_of_not_pos fun hp => ?_
    have:=Nat.mul_le_mul_left (4294967296^a.length) hp
    omega
   rw[h5] at h4;omega
 have hb0:borrow=0:=by
  refine Nat.eq_zero_of_not_pos fun hp => ?_
  have:=Nat.mul_le_mul_left (4294967296^a.length) hp
  omega
 subst hb0
 omega
theorem take_next{a b U:Words}{borrow nb t:Nat}{w:UInt32}(ht:t<a.length)(hl:U.length=a.length)(hinv:nat (U.take t)+nat (b.take t)=nat (a.take t)+4294967296^t*borrow)(h:w.toNat+wd b t+borrow=wd a t+4294967296*nb) :
  nat ((U.set t w).take (t+1))+nat (b.take (t+1))=nat (a.take (t+1))+4294967296^(t+1)*nb:=by
 rw[nat_take_set (by omega),nat_take_wd a t,nat_take_wd b t,Nat.pow_succ,Nat.mul_assoc]
 have h6:4294967296^t*w.toNat+4294967296^t*wd b t+4294967296^t*borrow=4294967296^t*wd a t+4294967296^t*(4294967296*nb):=by
  rw[←Nat.mul_add,←Nat.mul_add,←Nat.mul_add,h]
 omega
theorem wd_set_ne{l:Words}{t q:Nat}{w:UInt32}(h:q≠t):wd (l.set t w) q=wd l q:=by
 unfold wd
 rw[List.getElem?_set_ne (by omega)]
theorem take(a b:Words)(len:Nat)(hlen:len=a.length)(ha:a.length≤2199023255553)(hab:nat b≤nat a) :
  ∃U:Words,U.length=a.length∧nat U=nat a-nat b∧ContractX prg 167 [.row 100000 0 len 1,.pv (wordsPV b)] [(100000,ws a)] (.pv (.tup [])) [(100000,ws U)]:=by
 subst hlen
 have loop:∀(j t borrow:Nat) (U:Words),a.length-t=j→t≤a.length→U.length=a.length→borrow≤1→(∀q,t≤q→wd U q=wd a q) →
   nat (U.take t)+nat (b.take t)=nat (a.take t)+4294967296^t*borrow →
   ∃V:Words,V.length=a.length∧nat V=nat a-nat b∧linkworkref01_take.Loop1 a.length b borrow t U [(100000,ws a)] (.pv (.tup [])) [(100000,ws V)]:=by
  intro j
  induction j with
  |zero =>
   intro t borrow U hj ht hl hb hsame hinv
   have hte:t=a.length:=by omega
   subst hte
   exact⟨U,hl,take_end hl hab hinv,linkworkref01_take.l11 _ b borrow _ U (sin:=[(100000,ws a)]) rfl rfl (Nat.le_refl _)⟩
  |succ j ih =>
   intro t borrow U hj ht hl hb hsame hinv
   obtain⟨s,d,d1,x,z,nb,g1,g2,g3,g4,g5,g6,g7,g8,g9⟩:=minus_step (wd_lt a t) (wd_lt b t) hb
   obtain⟨w,hw⟩:=w_ex x g8
   obtain⟨V,h1,h2,h3⟩:=ih (t+1) nb (U.set t w) (by omega) (by omega) (by simpa using hl) g7 (fun q hq=>by rw[wd_set_ne (by omega)];exact hsame q (by omega)) (take_next (by omega) hl hinv (by rw[hw];exact g9))
   refine⟨V,h1,h2,linkworkref01_take.l10 _ b borrow t U U _ s _ d d1 w z nb rfl (by omega) (atR U t a.length hl.symm) (by rw[hsame t (Nat.le_refl t)];exact g1) (at' b t) g2 g3 (by omega) g5 g6 (by omega) (by omega) h3⟩
 obtain⟨V,h1,h2,h3⟩:=loop _ 0 0 a rfl (by omega) rfl (by omega) (fun _ _=>rfl) (by simp[nat])
 exact⟨V,h1,h2,linkworkref01_take.e0 a a.length b h3⟩
theorem takeR(a b:Words)(len len1:Nat)(hlen:len=a.length)(hlen1:len1=b.length)(ha:a.length≤2199023255553)(hab:nat b≤nat a) :
  ∃U:Words,U.length=a.length∧nat U=nat a-nat b∧ContractX prg 167 [.row 100000 0 len 1,.row 100001 0 len1 1] [(100000,ws a),(100001,ws b)] (.pv (.tup [])) [(100000,ws U),(100001,ws b)]:=by
 subst hlen
 have loop:∀(j t borrow:Nat) (U:Words),a.length-t=j→t≤a.length→U.length=a.length→borrow≤1→(∀q,t≤q→wd U q=wd a q) →
   nat (U.take t)+nat (b.take t)=nat (a.take t)+4294967296^t*borrow →
   ∃V:Words,V.length=a.length∧nat V=nat a-nat b∧linkworkref01_takeR.Loop1 a.length len1 borrow t U b [(100000,ws a),(100001,ws b)] (.pv (.tup [])) [(100000,ws V),(100001,ws b)]:=by
  intro j
  induction j with
  |zero =>
   intro t borrow U hj ht hl hb hsame hinv
   have hte:t=a.length:=by omega
   subst hte
   exact⟨U,hl,take_end hl hab hinv,linkworkref01_takeR.l11 _ _ borrow _ U b (sin:=[(100000,ws a),(100001,ws b)]) rfl rfl (Nat.le_refl _)⟩
  |succ j ih =>
   intro t borrow U hj ht hl hb hsame hinv
   obtain⟨s,d,d1,x,z,nb,g1,g2,g3,g4,g5,g6,g7,g8,g9⟩:=minus_step (wd_lt a t) (wd_lt b t) hb
   obtain⟨w,hw⟩:=w_ex x g8
   obtain⟨V,h1,h2,h3⟩:=ih (t+1) nb (U.set t w) (by omega) (by omega) (by simpa using hl) g7 (fun q hq=>by rw[wd_set_ne (by omega)];exact hsame q (by omega)) (take_next (by omega) hl hinv (by rw[hw];exact g9))
   refine⟨V,h1,h2,linkworkref01_takeR.l10 _ _ borrow t U b U _ s b _ d d1 w z nb rfl (by omega) (atR U t a.length hl.symm) (by rw[hsame t (Nat.le_refl t)];exact g1) (atR b t len1 hlen1) g2 g3 (by omega) g5 g6 (by omega) (by omega) h3⟩
 obtain⟨V,h1,h2,h3⟩:=loop _ 0 0 a rfl (by omega) rfl (by omega) (fun _ _=>rfl) (by simp[nat])
 exact⟨V,h1,h2,linkworkref01_takeR.e0 a a.length b len1 h3⟩
theorem half_word{x y:Nat}(hx:x<4294967296)(hy:y<4294967296):((x/2)%18446744073709551616) ||| ((y*2^min 31 64)%18446744073709551616%18446744073709551616)=(y*4294967296+x)/2:=by
 have e:(2:Nat)^min 31 64=2147483648:=by decide
 rw[e,Nat.mod_mod,Nat.mod_eq_of_lt (show x/2<18446744073709551616 by omega),Nat.mod_eq_of_lt (show y*2147483648<18446744073709551616 by omega),Nat.or_comm,Nat.mul_comm y]
 have:=Nat.two_pow_add_eq_or_of_lt (i:=31) (show x/2<2^31 by omega) y
 rw[show (2:Nat)^31=2147483648 from rfl] at this
 rw[←this]
 omega
theorem half_next{a U:Words}{t:Nat}{w:UInt32}(ht:t<a.length)(hl:U.length=a.length)(hinv:nat (U.take t)=(nat a/2)%4294967296^t)(hw:w.toNat=(wd a (t+1)*4294967296+wd a t)/2%4294967296) :
  nat ((U.set t w).take (t+1))=(nat a/2)%4294967296^(t+1):=by
 rw[nat_take_set (by omega),hinv,hw]
 have g1:nat a/2/4294967296^t=nat (a.drop t)/2:=by
  rw[Nat.div_div_eq_div_mul,Nat.mul_comm,←Nat.div_div_eq_div_mul,nat_div_pow a t (by omega)]
 have g2:nat (a.drop t)/2%4294967296=(wd a (t+1)*4294967296+wd a t)/2%4294967296:=by
  rw[nat_drop_wd a t,nat_drop_wd a (t+1)]
  generalize nat (a.drop (t+1+1))=r
  generalize wd a (t+1)=y
  generalize wd a t=x
  omega
 have g3:=Nat.mod_mul (a:=4294967296^t) (b:=4294967296) (x:=nat a/2)
 rw[Nat.pow_succ,g3,g1,g2]
theorem halve(a:Words)(len:Nat)(hlen:len=a.length)(ha:a.length≤2199023255553) :
  ContractX prg 165 [.row 100000 0 len 1] [(100000,ws a)] (.row 100000 0 (words (nat a/2)).length 1) [(100000,ws (words (nat a/2)))]:=by
 subst hlen
 have e1:(2:Nat)^min 1 64=2:=by decide
 have loop:∀(j t:Nat) (U:Words),a.length-t=j→t≤a.length→U.length=a.length→(∀q,t≤q→wd U q=wd a q)→nat (U.take t)=(nat a/2)%4294967296^t →
   linkworkref01_halve.Loop1 a.length t U [(100000,ws a)] (.row 100000 0 (words (nat a/2)).length 1) [(100000,ws (words (nat a/2)))]:=by
  intro j
  induction j with
  |zero =>
   intro t U hj ht hl hsame hinv
   have hte:t=a.length:=by omega
   subst hte
   rw[nat_take_all (by omega),Nat.mod_eq_of_lt (Nat.lt_of_le_of_lt (Nat.div_le_self _ _) (nat_lt a))] at hinv
   have hc:=cut U (by omega)
   rw[hinv,hl] at hc
   have:=linkworkref01_halve.l11 a.length a.length U (words (nat a/2)) (words (nat a/2)).length (sin:=[(100000,ws a)]) rfl rfl (Nat.le_refl _) hc
   rw[List.take_of_length_le (Nat.le_refl _)] at this
   exact this
  |succ j ih =>
   intro t U hj ht hl hsame hinv
   have h1:=wd_lt a t
   have h2:=wd_lt a (t+1)
   obtain⟨w,hw⟩:=w_ex ((wd a (t+1)*4294967296+wd a t)/2%4294967296) (Nat.mod_lt _ (by omega))
   have hA:=atR U t a.length hl.symm
   have hB:=atR U (t+1) a.length hl.symm
   rw[hsame t (Nat.le_refl t)] at hA
   rw[hsame (t+1) (by omega)] at hB
   refine linkworkref01_halve.l10 a.length t U U _ _ U _ _ ((wd a (t+1)*4294967296+wd a t)/2) w rfl (by omega) hA (by rw[e1]) (by omega) hB rfl (half_word h1 h2) hw.symm (by omega) ?_
   exact ih (t+1) (U.set t w) (by omega) (by omega) (by simpa using hl) (fun q hq=>by rw[wd_set_ne (by omega)];exact hsame q (by omega)) (half_next (by omega) hl hinv hw)
 exact linkworkref01_halve.e0 a a.length (loop _ 0 a rfl (by omega) rfl (fun _ _=>rfl) (by simp[nat,Nat.mod_one]))
end CRa
end Go.Proofs.YtboilcfohmmpbaaGreatDoor.Sym
namespace Go.Proofs.YtboilcfohmmpbaaGreatDoor.Sym
open Go Path
set_option linter.unusedVariables false
namespace CRa
open CInt
theorem times(a b:Words)(ha:a.length≤2199023255552)(hb:b.length≤2199023255552):Contract prg 136 [wordsPV a,wordsPV b] (wordsPV (words (nat a*nat b))):=by
 have inner:∀(i:Nat) (v:UInt32) (r:PV),a[i]? = some v→i<a.length→(∀site:Words,site.length=a.length+b.length→nat site=nat (a.take i)*nat b+4294967296^i*(v.toNat*nat b)→(∀q,i+1+b.length≤q→q<site.length→wd site q=0)→linkworkref01_times.Loop1 a b (i+1) site r) →
   ∀(j k carry:Nat) (site:Words),b.length-k=j→k≤b.length→site.length=a.length+b.length→carry<4294967296→(∀q,i+b.length≤q→q<site.length→wd site q=0) →
   nat site+4294967296^(i+k)*carry=nat (a.take i)*nat b+4294967296^i*(v.toNat*nat (b.take k))→linkworkref01_times.Loop2 a b i carry i k site r:=by
  intro i v r hv hi hfin j
  induction j with
  |zero =>
   intro k carry site hj hk hs hc hz hinv
   have hke:k=b.length:=by omega
   subst hke
   obtain⟨w,hw⟩:=w_ex carry hc
   refine linkworkref01_times.l21 a b i carry i b.length site w (by omega) (by omega) (by omega) (by omega) (by omega) (by omega) (hfin _ (by simpa using hs) ?_ ?_)
   ·obtain⟨u,hu⟩:∃u,site[i+b.length]? = some u:=⟨_,List.getElem?_eq_getElem (by omega)⟩
    have h0:=hz (i+b.length) (by omega) (by omega)
    rw[wd_some hu] at h0
    have h1:=nat_set site (i+b.length) w u hu
    rw[h0,hw] at h1
    rw[nat_take_all (l:=b) (by omega)] at hinv
    omega
   ·intro q hq1 hq2
    rw[List.length_set] at hq2
    have:=hz q (by omega) hq2
    unfold wd at this ⊢
    rw[List.getElem?_set_ne (by omega)]
    exact this
  |succ j ih =>
   intro k carry site hj hk hs hc hz hinv
   obtain⟨u,hu⟩:∃u,b[k]? = some u:=⟨_,List.getElem?_eq_getElem (by omega)⟩
   obtain⟨x,hx⟩:∃x,site[i+k]? = some x:=⟨_,List.getElem?_eq_getElem (by omega)⟩
   have h1:=mul_word (w_lt v) (w_lt u)
   have h2:=w_lt x
   generalize hp:v.toNat*u.toNat=p at *
   obtain⟨w,hw⟩:=w_ex ((carry+(p+x.toNat))%4294967296) (by omega)
   have e:(2:Nat)^min 32 64=4294967296:=by decide
   refine linkworkref01_times.l20 a b i carry i k site v u p x (p+x.toNat) (carry+(p+x.toNat)) w ((carry+(p+x.toNat))/4294967296) (by omega) hv hu (by rw[hp];omega) (by omega) (by omega) hx (by omega) (by omega) hw.symm (by rw[e]) (by omega) (by omega) ?_
   refine ih (k+1) _ (site.set (i+k) w) (by omega) (by omega) (by simpa using hs) (by omega) ?_ ?_
   ·intro q hq1 hq2
    rw[List.length_set] at hq2
    have:=hz q hq1 hq2
    unfold wd at this ⊢
    rw[List.getElem?_set_ne (by omega)]
    exact this
   ·have g1:=nat_set site (i+k) w x hx
    rw[hw] at g1
    rw[nat_take_succ hu,show i+(k+1)=i+k+1 from rfl,Nat.pow_succ,Nat.mul_assoc]
    have g2:4294967296^(i+k)*((carry+(p+x.toNat))%4294967296)+4294967296^(i+k)*(4294967296*((carry+(p+x.toNat))/4294967296))=4294967296^(i+k)*carry+4294967296^(i+k)*p+4294967296^(i+k)*x.toNat:=by
     rw[←Nat.mul_add,←Nat.mul_add,←Nat.mul_add];congr 1;omega
    have g3:4294967296^i*(v.toNat*(nat (b.take k)+4294967296^k*u.toNat))=4294967296^i*(v.toNat*nat (b.take k))+4294967296^(i+k)*p:=by
     rw[←hp,Nat.pow_add,Nat.mul_add,Nat.mul_add]
     congr 1
     rw[Nat.mul_assoc];congr 1
     rw[Nat.mul_left_comm]
    omega
 have loop:∀(j t:Nat) (site:Words),a.length-t=j→t≤a.length→site.length=a.length+b.length→nat site=nat (a.take t)*nat b→(∀q,t+b.length≤q→q<site.length→wd site q=0) →
   linkworkref01_times.Loop1 a b t site (wordsPV (words (nat a*nat b))):=by
  intro j
  induction j with
  |zero =>
   intro t site hj ht hs hinv _
   rw[nat_take_all (by omega)] at hinv
   have:=linkworkref01_times.l11 a b t site (words (nat site)) (by omega) (by omega) (trim site (by omega))
   rwa[hinv] at this
  |succ j ih =>
   intro t site hj ht hs hinv hz
   obtain⟨v,hv⟩:∃v,a[t]? = some v:=⟨_,List.getElem?_eq_getElem (by omega)⟩
   refine linkworkref01_times.l10 a b t site (by omega) ?_
   refine inner t v _ hv (by omega) (fun site' hs' hn' hz' => ?_) _ 0 0 site rfl (by omega) hs (by omega) hz ?_
   ·refine ih (t+1) site' (by omega) (by omega) hs' ?_ hz'
    rw[hn',nat_take_succ hv,Nat.add_mul,Nat.mul_assoc]
   ·simp[nat,hinv]
 refine linkworkref01_times.e0 a b (by omega) (by omega) (loop _ 0 _ rfl (by omega) (by simp) (by simp[nat,nat_zeros]) ?_)
 intro q _ hq
 unfold wd
 rw[List.getElem?_replicate]
 split
 ·rename_i w h
  split at h
  ·injection h with h;subst h;rfl
  ·cases h
 ·rfl
theorem pow32(k:Nat):(4294967296:Nat)^k=2^(32*k):=by rw[Nat.pow_mul]
theorem nat_hi{l:Words}{k:Nat}(h:l.length=k+1):nat l=nat (l.take k)+4294967296^k*wd l k:=by
 have:=nat_take_wd l k
 rwa[nat_take_all (by omega)] at this
theorem bits(a:Words)(hc:cn a=true)(ha:a.length≤2199023255553):Contract prg 169 [wordsPV a] (vI (blen (nat a))):=by
 by_cases h0:a.length=0
 ·have:a=[]:=List.eq_nil_of_length_eq_zero h0
  subst this
  exact linkworkref01_bits.e0 [] rfl
 ·have loop:∀(j:Nat) (n:Int) (x:UInt32),x.toNat≤j→InI64 (n+j)→InI64 n→linkworkref01_bits.Loop1 n x (vI (n+blen x.toNat)):=by
   intro j
   induction j with
   |zero =>
    intro n x hx _ _
    have e:x.toNat=0:=by omega
    rw[e,blen_zero]
    have:=linkworkref01_bits.l11 n x (by omega)
    rwa[show n+((0:Nat):Int)=n from by omega]
   |succ j ih =>
    intro n x hx hn hn0
    by_cases h:x.toNat=0
    ·rw[h,blen_zero]
     have:=linkworkref01_bits.l11 n x (by omega)
     rwa[show n+((0:Nat):Int)=n from by omega]
    ·obtain⟨z,hz⟩:=w_ex (x.toNat/2) (by have:=w_lt x;omega)
     have e:blen x.toNat=1+blen (x.toNat/2):=by
      have:=blen_div (n:=x.toNat) (k:=1)
      by_cases h1:x.toNat=1
      ·rw[h1];rfl
      ·exact this (by omega)
     unfold InI64 at hn hn0
     have:=ih (n+1) z (by omega) (by unfold InI64;omega) (by unfold InI64;omega)
     rw[hz] at this
     rw[e,show n+((1+blen (x.toNat/2):Nat):Int)=n+1+(blen (x.toNat/2):Nat) from by omega]
     exact linkworkref01_bits.l10 n x z (by omega) (by unfold InI64;omega) (by rw[hz];rfl) this
  obtain⟨k,hk⟩:∃k,a.length=k+1:=⟨a.length-1,by omega⟩
  obtain⟨v,hv⟩:∃v,a[k]? = some v:=⟨_,List.getElem?_eq_getElem (by omega)⟩
  have h1:=(cn_last (v:=v) (by rw[hk];exact hv)).1 hc
  have h2:=nat_lt (a.take k)
  rw[List.length_take,Nat.min_eq_left (by omega)] at h2
  have h3:=nat_hi hk
  rw[wd_some hv] at h3
  have e:blen (nat a)=32*k+blen v.toNat:=by
   rw[pow32] at h2 h3
   have h4:2^(32*k)≤nat a:=by
    have:=Nat.mul_le_mul_left (2^(32*k)) (show 1≤v.toNat by omega)
    omega
   rw[blen_div h4]
   congr 2
   rw[h3,Nat.add_mul_div_left _ _ (Nat.two_pow_pos _),Nat.div_eq_of_lt h2,Nat.zero_add]
  have hw:=w_lt v
  have:=loop v.toNat (32*((a.length:Int)-1)) v (Nat.le_refl _) (by unfold InI64;omega) (by unfold InI64;omega)
  rw[e,show((32*k+blen v.toNat:Nat):Int)=32*((a.length:Int)-1)+(blen v.toNat:Nat) from by omega]
  exact linkworkref01_bits.e1 a k v h0 (by unfold InI64;omega) (by unfold InI64;omega) (by omega) hv this
theorem dbl_word{v c:Nat}(hv:v<4294967296)(hc:c≤1):((v*2^(min 1 32))%4294967296%4294967296) ||| (c%4294967296)=(2*v)%4294967296+c:=by
 have e:(2:Nat)^min 1 32=2:=by decide
 rw[e,Nat.mod_mod,Nat.mod_eq_of_lt (show c<4294967296 by omega)]
 obtain⟨u,hu⟩:∃u,(v*2)%4294967296=2*u:=⟨(v*2)%4294967296/2,by omega⟩
 rw[hu]
 have:=Nat.two_pow_add_eq_or_of_lt (i:=1) (show c<2^1 by omega) u
 rw[show (2:Nat)^1=2 from rfl] at this
 rw[←this];omega
theorem bit_or{v s:Nat}(hs:s<32)(hv:v%2^(s+1)=0)(hl:v<4294967296):(v%4294967296) ||| (((1*2^(min (s%32) 32))%4294967296)%4294967296)=v+2^s:=by
 have h1:2^s<4294967296:=by
  have:=Nat.pow_lt_pow_right (a:=2) (by omega) hs
  omega
 rw[Nat.mod_eq_of_lt hs,Nat.min_eq_left (by omega),Nat.one_mul,Nat.mod_mod,Nat.mod_eq_of_lt hl,Nat.mod_eq_of_lt h1]
 have h2:v=2^(s+1)*(v/2^(s+1)):=by have:=Nat.div_add_mod v (2^(s+1));omega
 have h3:=Nat.two_pow_add_eq_or_of_lt (i:=s+1) (show 2^s<2^(s+1) by rw[Nat.pow_succ];have:=Nat.two_pow_pos s;omega) (v/2^(s+1))
 rw[←h2] at h3
 exact h3.symm
theorem wd_eq(a:Words)(t:Nat)(ht:t≤a.length):wd a t=nat a/4294967296^t%4294967296:=by
 rw[nat_div_pow a t ht,nat_drop_wd a t]
 have:=wd_lt a t
 omega
theorem wd_low(a:Words)(t s Q:Nat)(hs:s<32)(ht:t≤a.length)(h:nat a=Q*2^(32*t+s+1)):wd a t%2^(s+1)=0:=by
 rw[wd_eq a t ht,h,pow32,show 32*t+s+1=(s+1)+32*t from by omega,Nat.pow_add,←Nat.mul_assoc,Nat.mul_div_cancel _ (Nat.two_pow_pos _)]
 have:(4294967296:Nat)=2^(s+1)*2^(32-(s+1)):=by rw[←Nat.pow_add,show s+1+(32-(s+1))=32 from by omega]
 rw[this,Nat.mod_mul_right_mod,Nat.mul_mod_left]
theorem bit_at(a:Words)(k:Nat)(hk:k/32≤a.length):wd a (k/32)/2^(k%32)%2=nat a/2^k%2:=by
 rw[wd_eq a _ hk,pow32]
 have e:(4294967296:Nat)=2^(k%32)*2^(32-k%32):=by rw[←Nat.pow_add,show k%32+(32-k%32)=32 from by omega]
 have e2:(2:Nat)^(32-k%32)=2*2^(31-k%32):=by rw[show 32-k%32=(31-k%32)+1 from by omega,Nat.pow_succ,Nat.mul_comm]
 rw[e,Nat.mod_mul_right_div_self,e2,Nat.mod_mul_right_mod,Nat.div_div_eq_div_mul,←Nat.pow_add,Nat.div_add_mod]
theorem dbl(a b:Words)(hb:b.length≤2199023255552):∀(i:Int) (q R:Words) (bit:Nat) (r:PV),R.length=b.length+1→nat R<nat b→bit≤1 →
  (∀(c:UInt32) (t:Nat) (U:Words),b.length+1≤t→U.length=b.length+1→nat U=2*nat R+bit→linkworkref01_divide.Loop2 a b i c t q U r) →
  ∀(j t:Nat) (c:UInt32) (U:Words),b.length+1-t=j→t≤b.length+1→U.length=b.length+1→c.toNat≤1→(∀p,t≤p→wd U p=wd R p) →
  nat (U.take t)+4294967296^t*c.toNat=2*nat (R.take t)+bit→linkworkref01_divide.Loop2 a b i c t q U r:=by
 have hblt:=nat_lt b
 have hblt2:2*nat b<4294967296^(b.length+1):=by rw[Nat.pow_succ];omega
 intro i q R bit r hR hRb hbit hfin j
 induction j with
 |zero =>
  intro t c U hj ht hU hc hsame hinv
  have hte:t=b.length+1:=by omega
  rw[←hte] at hblt2
  refine hfin c _ U (by omega) hU ?_
  rw[nat_take_all (by omega),nat_take_all (by omega)] at hinv
  clear hte
  generalize 4294967296^t=P at hinv hblt2
  have:c.toNat=0:=by
   refine Nat.eq_zero_of_not_pos fun hp => ?_
   have:=Nat.mul_le_mul_left P (show 1≤c.toNat from hp)
   omega
  rw[this] at hinv
  omega
 |succ j ih =>
  intro t c U hj ht hU hc hsame hinv
  obtain⟨v,hv⟩:∃v,U[t]? = some v:=⟨_,List.getElem?_eq_getElem (by omega)⟩
  have hv2:=hsame t (Nat.le_refl t)
  rw[wd_some hv] at hv2
  have hvl:=w_lt v
  obtain⟨z,hz⟩:=w_ex ((v.toNat*2^(min 1 32))%4294967296) (Nat.mod_lt _ (by omega))
  obtain⟨z1,hz1⟩:=w_ex ((2*v.toNat)%4294967296+c.toNat) (by omega)
  obtain⟨z2,hz2⟩:=w_ex (v.toNat/2147483648) (by omega)
  have e31:(2:Nat)^min 31 32=2147483648:=by decide
  refine linkworkref01_divide.l20 a b i c t q U v z z1 z2 (by omega) hv hz.symm (by rw[hz,hz1];exact dbl_word hvl hc) (by rw[e31,hz2]) (by omega) (by omega) ?_
  refine ih (t+1) z2 (U.set t z1) (by omega) (by omega) (by simpa using hU) (by omega) (fun p hp=>by rw[wd_set_ne (by omega)];exact hsame p (by omega)) ?_
  rw[nat_take_set (by omega),nat_take_wd R t,←hv2,hz1,hz2,Nat.pow_succ,Nat.mul_assoc]
  have h6:4294967296^t*((2*v.toNat)%4294967296+c.toNat)+4294967296^t*(4294967296*(v.toNat/2147483648))=4294967296^t*c.toNat+2*(4294967296^t*v.toNat):=by
   rw[Nat.mul_left_comm 2,←Nat.mul_add,←Nat.mul_add]
   congr 1
   omega
  omega
theorem divide(a b:Words)(hca:cn a=true)(hb0:0<nat b)(ha:a.length≤2199023255552)(hb:b.length≤2199023255552) :
  Contract prg 143 [wordsPV a,wordsPV b] (.tup [wordsPV (words (nat a/nat b)),wordsPV (words (nat a%nat b))]):=by
 have loop:∀(n Q:Nat) (q R:Words),q.length=a.length→R.length=b.length+1→n≤blen (nat a)→n≤32*a.length→nat a/2^n=Q*nat b+nat R→nat R<nat b→nat q=Q*2^n →
   linkworkref01_divide.Loop1 a b ((n:Int)-1) q R (.tup [wordsPV (words (nat a/nat b)),wordsPV (words (nat a%nat b))]):=by
  intro n
  induction n with
  |zero =>
   intro Q q R hq hR _ _ hdiv hlt hqn
   have h1:=trim q (by omega)
   have h2:=trim R (by omega)
   rw[Nat.pow_zero,Nat.div_one] at hdiv
   rw[Nat.pow_zero,Nat.mul_one] at hqn
   have e1:nat a/nat b=nat q:=by
    rw[hqn,hdiv,Nat.add_comm,Nat.add_mul_div_right _ _ hb0,Nat.div_eq_of_lt hlt,Nat.zero_add]
   have e2:nat a%nat b=nat R:=by
    rw[hdiv,Nat.add_comm,Nat.add_mul_mod_self_right,Nat.mod_eq_of_lt hlt]
   rw[e1,e2]
   exact linkworkref01_divide.l11 a b _ q R _ _ (by omega) (by omega) (by omega) h1 h2
  |succ n ih =>
   intro Q q R hq hR hn hn2 hdiv hlt hqn
   have hidx:n/32<a.length:=by omega
   obtain⟨v,hv⟩:∃v,a[n/32]? = some v:=⟨_,List.getElem?_eq_getElem hidx⟩
   have hvl:=w_lt v
   have hs:n%32<32:=Nat.mod_lt _ (by omega)
   obtain⟨z,hz⟩:=w_ex (v.toNat/2^(n%32)) (Nat.lt_of_le_of_lt (Nat.div_le_self _ _) hvl)
   obtain⟨z1,hz1⟩:=w_ex (nat a/2^n%2) (by omega)
   have hbit:=bit_at a n (by omega)
   rw[wd_some hv] at hbit
   rw[show ((n+1:Nat):Int)-1=(n:Int) from by omega]
   refine linkworkref01_divide.l10 a b (n:Int) q R n v n z z1 (by omega) rfl (by omega) hv rfl (by rw[Nat.min_eq_left (by omega),hz]) ?_ ?_
   ·rw[show (1:Nat)%4294967296=1 from rfl,Nat.and_one_is_mod,hz1,←hbit,hz]
    have:=Nat.lt_of_le_of_lt (Nat.div_le_self v.toNat (2^(n%32))) hvl
    omega
   ·have hstep:nat a/2^n=2*(nat a/2^(n+1))+nat a/2^n%2:=by
     rw[Nat.pow_succ,←Nat.div_div_eq_div_mul];omega
    have hb2:nat a/2^n%2≤1:=by omega
    generalize hbv:nat a/2^n%2=bit at *
    refine dbl a b hb (n:Int) q R bit _ hR hlt hb2 ?_ _ 0 z1 R rfl (by omega) hR (by omega) (fun _ _=>rfl) (by simp[nat];exact hz1)
    intro c t U ht hU hUn
    have hcmp:=compareR U b (b.length+1) hU.symm (by omega) (by omega)
    by_cases hge:nat b≤nat U
    ·obtain⟨V,hV1,hV2,hV3⟩:=take U b (b.length+1) hU.symm (by omega) hge
     obtain⟨u,hu⟩:∃u,q[n/32]? = some u:=⟨_,List.getElem?_eq_getElem (by omega)⟩
     have hul:=w_lt u
     have hlow:=wd_low q (n/32) (n%32) Q hs (by omega) (by rw[hqn,show 32*(n/32)+n%32+1=n+1 from by omega])
     rw[wd_some hu] at hlow
     have h2s:2^(n%32)<4294967296:=by
      have:=Nat.pow_lt_pow_right (a:=2) (by omega) hs
      omega
     obtain⟨z2,hz2⟩:=w_ex ((1*2^(min (n%32) 32))%4294967296) (Nat.mod_lt _ (by omega))
     have hor:=bit_or hs hlow hul
     rw[Nat.mod_eq_of_lt hs] at hor
     have hbound:u.toNat+2^(n%32)<4294967296:=by
      rw[←hor]
      exact Nat.or_lt_two_pow (n:=32) (Nat.mod_lt _ (by omega)) (Nat.mod_lt _ (by omega))
     obtain⟨z3,hz3⟩:=w_ex _ hbound
     refine linkworkref01_divide.l21 a b (n:Int) c t q U U _ V n u n z2 z3 ht hcmp (by unfold cmpI;split<;>(try split)<;>omega) hV3 rfl (by omega) hidx hu rfl hz2.symm (by rw[hz2,hz3];exact hor) (by omega) (by unfold InI64;omega) ?_
     refine ih (2*Q+1) (q.set (n/32) z3) V (by simpa using hq) (by omega) (by omega) (by omega) ?_ ?_ ?_
     ·rw[hstep,hdiv,hV2,hUn,Nat.add_mul,Nat.mul_add,Nat.mul_assoc];omega
     ·omega
     ·have g:=nat_set q (n/32) z3 u hu
      rw[hz3,Nat.mul_add,hqn,pow32,←Nat.pow_add,show 32*(n/32)+n%32=n from by omega] at g
      rw[Nat.pow_succ] at g
      have:(2*Q+1)*2^n=Q*(2^n*2)+2^n:=by rw[Nat.add_mul,Nat.one_mul,Nat.mul_comm 2 Q,Nat.mul_assoc,Nat.mul_comm 2 (2^n)]
      omega
    ·refine linkworkref01_divide.l22 a b (n:Int) c t q U U _ ht hcmp (by unfold cmpI;split<;>(try split)<;>omega) (by unfold InI64;omega) ?_
     refine ih (2*Q) q U hq hU (by omega) (by omega) ?_ (by omega) ?_
     ·rw[hstep,hdiv,hUn,Nat.mul_add,Nat.mul_assoc];omega
     ·rw[hqn,Nat.pow_succ,Nat.mul_comm 2 Q,Nat.mul_assoc,Nat.mul_comm 2 (2^n)]
 have hbits:=bits a hca (by omega)
 have hbl:blen (nat a)≤32*a.length:=blen_le (by rw[←pow32];exact nat_lt a)
 refine linkworkref01_divide.e0 a b _ (by omega) (by omega) (by omega) hbits (by unfold InI64;omega) ?_
 refine loop (blen (nat a)) 0 _ _ (by simp) (by simp) (Nat.le_refl _) hbl ?_ ?_ ?_
 ·rw[nat_zeros,Nat.div_eq_of_lt (lt_blen _)];simp
 ·rw[nat_zeros];exact hb0
 ·rw[nat_zeros];simp
theorem low_word{p:Nat}(hp:0<p):∃v z:UInt32,0<(words p).length∧(words p)[0]? = some v∧(v.toNat%4294967296) &&& (1%4294967296)=z.toNat∧z.toNat=p%2:=by
 have hl:0<(words p).length:=Nat.pos_of_ne_zero (by rw[Ne,words_len0];omega)
 obtain⟨v,hv⟩:∃v,(words p)[0]? = some v:=⟨_,List.getElem?_eq_getElem hl⟩
 obtain⟨z,hz⟩:=w_ex (p%2) (by omega)
 refine⟨v,z,hl,hv,?_,hz⟩
 have h:=wd_eq (words p) 0 (by omega)
 rw[wd_some hv,nat_words,Nat.pow_zero,Nat.div_one] at h
 rw[show (1:Nat)%4294967296=1 from rfl,Nat.and_one_is_mod,hz,h]
 omega
theorem gcd_half{p q:Nat}(hp:p%2=0)(hq:q%2=1):Nat.gcd (p/2) q=Nat.gcd p q:=by
 have hc:Nat.Coprime 2 q:=by
  unfold Nat.Coprime
  rw[Nat.gcd_rec,hq];rfl
 have:=Nat.Coprime.gcd_mul_left_cancel (p/2) hc
 rw[←this]
 congr 1
 omega
theorem gcd_len{p q k:Nat}(hq:0<q)(h:(words q).length≤k):(words (Nat.gcd p q)).length≤k:=Nat.le_trans (len_mono (Nat.le_of_dvd hq (Nat.gcd_dvd_right p q))) h
theorem halveW(p:Nat)(hp:(words p).length≤2199023255553):ContractX prg 165 [.row 100000 0 (words p).length 1] [(100000,ws (words p))] (.row 100000 0 (words (p/2)).length 1) [(100000,ws (words (p/2)))]:=by
 have:=halve (words p) _ rfl hp
 rwa[nat_words] at this
theorem takeW(p q:Nat)(hp:(words p).length≤2199023255553)(hpq:q≤p):∃U:Words,U.length=(words p).length ∧
  ContractX prg 167 [.row 100000 0 (words p).length 1,.row 100001 0 (words q).length 1] [(100000,ws (words p)),(100001,ws (words q))] (.pv (.tup [])) [(100000,ws U),(100001,ws (words q))] ∧
  ContractX prg 168 [.row 100000 0 (words p).length 1] [(100000,ws U)] (.row 100000 0 (words (p-q)).length 1) [(100000,ws (words (p-q)))]:=by
 obtain⟨U,h1,h2,h3⟩:=takeR (words p) (words q) _ _ rfl rfl hp (by rw[nat_words,nat_words];exact hpq)
 have hc:=cut U (by omega)
 rw[nat_words,nat_words] at h2
 rw[h2,h1] at hc
 exact⟨U,h1,h3,hc⟩
theorem gcd(a b:Words)(ha:a.length≤1099511627776)(hb:b.length≤1099511627776):Contract prg 142 [wordsPV a,wordsPV b] (wordsPV (words (Nat.gcd (nat a) (nat b)))):=by
 have t1:=trimX a (by omega)
 have t2:=trimX b (by omega)
 have la:=len_nat_le a
 have lb:=len_nat_le b
 generalize nat a=A at *
 generalize nat b=B at *
 by_cases hA:A=0
 ·subst hA
  rw[Nat.gcd_zero_left]
  exact linkworkref01_gcd.e0 a b _ _ _ _ t1 t2 (by rw[words_zero];rfl) rfl
 by_cases hB:B=0
 ·subst hB
  rw[Nat.gcd_zero_right]
  exact linkworkref01_gcd.e1 a b _ _ _ _ t1 t2 (by rw[Ne,words_len0];exact hA) (by rw[words_zero];rfl) rfl
 refine linkworkref01_gcd.e2 a b _ _ _ _ t1 t2 (by rw[Ne,words_len0];exact hA) (by rw[Ne,words_len0];exact hB) ?_
 have fin:∀(j m t64 t65:Nat),t64-t65=j→t64<9223372036854775808→(words (m*2^j)).length≤1099511627776→linkworkref01_gcd.Loop4 (words m) t64 t65 (wordsPV (words (m*2^j))):=by
  intro j
  induction j with
  |zero =>
   intro m t64 t65 hj _ _
   rw[Nat.pow_zero,Nat.mul_one]
   exact linkworkref01_gcd.l41 _ _ _ (by omega)
  |succ j ih =>
   intro m t64 t65 hj ht hl
   have e:m*2^(j+1)=(m+m)*2^j:=by rw[Nat.pow_succ,Nat.add_mul,←Nat.mul_assoc];omega
   have hm:(words m).length≤1099511627776:=by
    refine Nat.le_trans (len_mono ?_) hl
    have:=Nat.mul_le_mul_left m (Nat.two_pow_pos (j+1))
    omega
   have hp:=plus (words m) (words m) (by omega) (by omega)
   rw[nat_words] at hp
   rw[e] at hl ⊢
   exact linkworkref01_gcd.l40 _ _ _ _ (by omega) hp (by omega) (ih (m+m) t64 (t65+1) (by omega) ht hl)
 have rounds:∀(s p q tw:Nat),p+q≤s→0<q→(words p).length≤1099511627776→(words q).length≤1099511627776→tw<9223372036854775808→(words (Nat.gcd p q*2^tw)).length≤1099511627776 →
   ((p%2=1∨q%2=1)→linkworkref01_gcd.Loop2 (words p).length (words q).length tw (words p) (words q) (wordsPV (words (Nat.gcd p q*2^tw)))) ∧
   (0<p→(p%2=1∨q%2=1)→linkworkref01_gcd.Loop3 (words p).length (words q).length tw (words p) (words q) (wordsPV (words (Nat.gcd p q*2^tw)))) ∧
   (p%2=1→linkworkref01_gcd.Loop5 (words p).length (words q).length tw (words p) (words q) (wordsPV (words (Nat.gcd p q*2^tw)))):=by
  intro s
  induction s with
  |zero=>intro p q tw h1 h2;omega
  |succ s ih =>
   intro p q tw hs hq lp lq htw hl
   have L5:p%2=1→linkworkref01_gcd.Loop5 (words p).length (words q).length tw (words p) (words q) (wordsPV (words (Nat.gcd p q*2^tw))):=by
    intro hp
    obtain⟨v,z,g1,g2,g3,g4⟩:=low_word hq
    by_cases he:q%2=0
    ·have hg:=gcd_half (p:=q) (q:=p) he hp
     have:=(ih p (q/2) tw (by omega) (by omega) lp (Nat.le_trans (len_mono (Nat.div_le_self q 2)) lq) htw (by rw[Nat.gcd_comm,hg,Nat.gcd_comm];exact hl)).2.2 hp
     rw[Nat.gcd_comm,hg,Nat.gcd_comm] at this
     exact linkworkref01_gcd.l50 _ _ tw _ _ v z _ _ g1 g2 g3 (by omega) (halveW q (by omega)) this
    ·have hc:=compareRR (words p) (words q) _ _ rfl rfl (by omega) (by omega)
     rw[nat_words,nat_words] at hc
     by_cases hlt:p<q
     ·obtain⟨U,u1,u2,u3⟩:=takeW q p (by omega) (by omega)
      have hg:Nat.gcd (q-p) p=Nat.gcd p q:=by rw[Nat.gcd_sub_self_left (by omega),Nat.gcd_comm]
      have:=(ih (q-p) p tw (by omega) (by omega) (Nat.le_trans (len_mono (Nat.sub_le q p)) lq) lp htw (by rw[hg];exact hl)).1 (by omega)
      rw[hg] at this
      exact linkworkref01_gcd.l51 _ _ tw _ _ v z _ _ _ U _ _ _ g1 g2 g3 (by omega) hc (by unfold cmpI;split<;>(try split)<;>omega) u2 u3 this
     ·obtain⟨U,u1,u2,u3⟩:=takeW p q (by omega) (by omega)
      have hg:Nat.gcd (p-q) q=Nat.gcd p q:=Nat.gcd_sub_self_left (by omega)
      have:=(ih (p-q) q tw (by omega) hq (Nat.le_trans (len_mono (Nat.sub_le p q)) lp) lq htw (by rw[hg];exact hl)).1 (by omega)
      rw[hg] at this
      exact linkworkref01_gcd.l52 _ _ tw _ _ v z _ _ _ U _ _ _ g1 g2 g3 (by omega) hc (by unfold cmpI;split<;>(try split)<;>omega) u2 u3 this
   have L3:0<p→(p%2=1∨q%2=1)→linkworkref01_gcd.Loop3 (words p).length (words q).length tw (words p) (words q) (wordsPV (words (Nat.gcd p q*2^tw))):=by
    intro hp hodd
    obtain⟨v,z,g1,g2,g3,g4⟩:=low_word hp
    by_cases he:p%2=0
    ·have hg:=gcd_half (p:=p) (q:=q) he (by omega)
     have:=(ih (p/2) q tw (by omega) hq (Nat.le_trans (len_mono (Nat.div_le_self p 2)) lp) lq htw (by rw[hg];exact hl)).2.1 (by omega) (by omega)
     rw[hg] at this
     exact linkworkref01_gcd.l30 _ _ tw _ _ v z _ _ g1 g2 g3 (by omega) (halveW p (by omega)) this
    ·exact linkworkref01_gcd.l31 _ _ tw _ _ v z g1 g2 g3 (by omega) (L5 (by omega))
   refine⟨fun hodd => ?_,L3,L5⟩
   by_cases hp:p=0
   ·subst hp
    rw[Nat.gcd_zero_left] at hl ⊢
    exact linkworkref01_gcd.l21 _ _ tw _ _ (by rw[words_zero];simp) rfl (fin tw q tw 0 rfl htw hl)
   ·exact linkworkref01_gcd.l20 _ _ tw _ _ (Nat.pos_of_ne_zero (by rw[Ne,words_len0];exact hp)) (L3 (by omega) hodd)
 have first:∀(s p q tw:Nat),p+q≤s→0<p→0<q→(words p).length≤1099511627776→(words q).length≤1099511627776→(words (Nat.gcd p q*2^tw)).length≤1099511627776 →
   linkworkref01_gcd.Loop1 (words p).length (words q).length tw (words p) (words q) (wordsPV (words (Nat.gcd p q*2^tw))):=by
  intro s
  induction s with
  |zero=>intro p q tw h1 h2;omega
  |succ s ih =>
   intro p q tw hs hp hq lp lq hl
   have htw:tw+1<9223372036854775808:=by
    have h1:2^tw≤Nat.gcd p q*2^tw:=Nat.le_mul_of_pos_left _ (Nat.gcd_pos_of_pos_left _ hp)
    have h2:=lt_of_len (Nat.gcd p q*2^tw)
    rw[pow32] at h2
    have h3:=(Nat.pow_lt_pow_iff_right (a:=2) (by omega)).1 (Nat.lt_of_le_of_lt h1 h2)
    omega
   obtain⟨v,z,g1,g2,g3,g4⟩:=low_word hp
   by_cases he:p%2=0
   ·obtain⟨v',z',g1',g2',g3',g4'⟩:=low_word hq
    by_cases he':q%2=0
    ·have hg:Nat.gcd (p/2) (q/2)*2^(tw+1)=Nat.gcd p q*2^tw:=by
      have h:=Nat.gcd_mul_left 2 (p/2) (q/2)
      rw[show 2*(p/2)=p from by omega,show 2*(q/2)=q from by omega] at h
      rw[h,Nat.pow_succ,Nat.mul_comm 2,Nat.mul_assoc,Nat.mul_comm 2]
     have:=ih (p/2) (q/2) (tw+1) (by omega) (by omega) (by omega) (Nat.le_trans (len_mono (Nat.div_le_self p 2)) lp) (Nat.le_trans (len_mono (Nat.div_le_self q 2)) lq) (by rw[hg];exact hl)
     rw[hg] at this
     exact linkworkref01_gcd.l10 _ _ tw _ _ v z v' z' _ _ _ _ g1 g2 g3 (by omega) g1' g2' g3' (by omega) (halveW p (by omega)) (halveW q (by omega)) htw this
    ·exact linkworkref01_gcd.l11 _ _ tw _ _ v z v' z' g1 g2 g3 (by omega) g1' g2' g3' (by omega) ((rounds (p+q) p q tw (Nat.le_refl _) hq lp lq (by omega) hl).1 (by omega))
   ·exact linkworkref01_gcd.l12 _ _ tw _ _ v z g1 g2 g3 (by omega) ((rounds (p+q) p q tw (Nat.le_refl _) hq lp lq (by omega) hl).1 (by omega))
 have:=first (A+B) A B 0 (Nat.le_refl _) (by omega) (by omega) (by omega) (by omega) (by rw[Nat.pow_zero,Nat.mul_one];exact gcd_len (by omega) (by omega))
 rwa[Nat.pow_zero,Nat.mul_one] at this
end CRa
end Go.Proofs.YtboilcfohmmpbaaGreatDoor.Sym
namespace Go.Proofs.YtboilcfohmmpbaaGreatDoor.Sym
open Go Path
set_option linter.unusedVariables false
namespace CRa
open CInt
theorem Sign(a:AWhole)(h:Fit a.mag):Contract prg 113 [a.pv] (vI (sgn a.val)):=by
 have hm:=mag a h
 by_cases h0:a.val=0
 ·rw[h0,sgn_zero]
  exact linkworkref01_Sign.e0 a _ hm (by rw[h0];rfl)
 ·have hg:=neg a h
  have hl:(words a.val.natAbs).length≠0:=by rw[Ne,words_len0];omega
  by_cases hn:a.val<0
  ·rw[sgn_neg hn]
   exact linkworkref01_Sign.e1 a _ _ hm hl hg (decide_eq_true hn)
  ·rw[sgn_pos (by omega)]
   exact linkworkref01_Sign.e2 a _ _ hm hl hg (decide_eq_false hn)
theorem Neg(a:AWhole)(h:Fit a.mag):Contract prg 103 [a.pv] (Sym.whole (-a.val)).pv:=by
 have h3:=mag a h
 have h5:=neg a h
 have la:=val_natAbs_le a
 have hw:=form (!decide (a.val<0)) (words a.val.natAbs) (by have:(words a.val.natAbs).length≤a.mag.length:=la;omega)
 have e:(bif !decide (a.val<0) then -(nat (words a.val.natAbs):Int) else (nat (words a.val.natAbs):Int)) = -a.val:=by
  rw[nat_words]
  by_cases h:a.val<0
  ·simp[h];omega
  ·simp[h];omega
 rw[e] at hw
 exact linkworkref01_Neg.e0 a _ _ _ h5 h3 hw
theorem Add(a b:AWhole)(ha:Fit a.mag)(hb:Fit b.mag):Contract prg 157 [a.pv,b.pv] (Sym.whole (a.val+b.val)).pv:=by
 have h1:=mag a ha
 have h2:=mag b hb
 have h3:=neg a ha
 have h4:=neg b hb
 have la:(words a.val.natAbs).length≤a.mag.length:=val_natAbs_le a
 have lb:(words b.val.natAbs).length≤b.mag.length:=val_natAbs_le b
 by_cases hs:decide (a.val<0)=decide (b.val<0)
 ·have hp:=plus (words a.val.natAbs) (words b.val.natAbs) (by omega) (by omega)
  rw[nat_words,nat_words] at hp
  have hl:=len_of_lt (n:=a.val.natAbs+b.val.natAbs) (k:=max (words a.val.natAbs).length (words b.val.natAbs).length+1) (by
   have g1:=lt_of_len a.val.natAbs
   have g2:=lt_of_len b.val.natAbs
   have g3:=pow_le (Nat.le_max_left (words a.val.natAbs).length (words b.val.natAbs).length)
   have g4:=pow_le (Nat.le_max_right (words a.val.natAbs).length (words b.val.natAbs).length)
   rw[Nat.pow_succ];omega)
  have hw:=form (decide (a.val<0)) (words (a.val.natAbs+b.val.natAbs)) (by omega)
  rw[nat_words] at hw
  have e:(bif decide (a.val<0) then -((a.val.natAbs+b.val.natAbs:Nat):Int) else ((a.val.natAbs+b.val.natAbs:Nat):Int))=a.val+b.val:=by
   by_cases h:a.val<0
   ·have:b.val<0:=by simpa[h] using hs.symm
    simp[h];omega
   ·have:¬b.val<0:=by simpa[h] using hs.symm
    simp[h];omega
  rw[e] at hw
  exact linkworkref01_Add.e0 a b _ _ _ _ _ _ _ h1 h2 h3 h4 hs h3 hp hw
 ·have hc:=compare (words a.val.natAbs) (words b.val.natAbs) (by omega) (by omega)
  rw[nat_words,nat_words] at hc
  by_cases hge:b.val.natAbs≤a.val.natAbs
  ·have hl:=minus (words a.val.natAbs) (words b.val.natAbs) (by omega) (by rw[nat_words,nat_words];exact hge)
   rw[nat_words,nat_words] at hl
   have hlen:=len_mono (show a.val.natAbs-b.val.natAbs≤a.val.natAbs by omega)
   have hw:=form (decide (a.val<0)) (words (a.val.natAbs-b.val.natAbs)) (by omega)
   rw[nat_words] at hw
   have e:(bif decide (a.val<0) then -((a.val.natAbs-b.val.natAbs:Nat):Int) else ((a.val.natAbs-b.val.natAbs:Nat):Int))=a.val+b.val:=by
    by_cases h:a.val<0
    ·have:¬b.val<0:=by simpa[h] using hs
     simp[h];omega
    ·have:b.val<0:=by simpa[h] using hs
     simp[h];omega
   rw[e] at hw
   exact linkworkref01_Add.e1 a b _ _ _ _ _ _ _ _ h1 h2 h3 h4 hs hc (by unfold cmpI;split<;>(try split)<;>omega) h3 hl hw
  ·have hl:=minus (words b.val.natAbs) (words a.val.natAbs) (by omega) (by rw[nat_words,nat_words];omega)
   rw[nat_words,nat_words] at hl
   have hlen:=len_mono (show b.val.natAbs-a.val.natAbs≤b.val.natAbs by omega)
   have hw:=form (decide (b.val<0)) (words (b.val.natAbs-a.val.natAbs)) (by omega)
   rw[nat_words] at hw
   have e:(bif decide (b.val<0) then -((b.val.natAbs-a.val.natAbs:Nat):Int) else ((b.val.natAbs-a.val.natAbs:Nat):Int))=a.val+b.val:=by
    by_cases h:b.val<0
    ·have:¬a.val<0:=by intro h';simp[h,h'] at hs
     simp[h];omega
    ·have:a.val<0:=by
      refine Classical.byContradiction fun h' => ?_
      simp[h,h'] at hs
     simp[h];omega
   rw[e] at hw
   exact linkworkref01_Add.e2 a b _ _ _ _ _ _ _ _ h1 h2 h3 h4 hs hc (by unfold cmpI;split<;>(try split)<;>omega) h4 hl hw
theorem Sub(a b:AWhole)(ha:Fit a.mag)(hb:Fit b.mag):Contract prg 149 [a.pv,b.pv] (Sym.whole (a.val-b.val)).pv:=by
 have h1:=Neg b hb
 have h2:=Add a (Sym.whole (-b.val)) ha (by
  have:=val_natAbs_le b
  show(words (-b.val).natAbs).length≤_
  rw[Int.natAbs_neg]
  have:(words b.val.natAbs).length≤b.mag.length:=this
  omega)
 rw[whole_val,←Int.sub_eq_add_neg] at h2
 exact linkworkref01_Sub.e0 a b _ _ h1 h2
theorem Mul(a b:AWhole)(ha:Fit a.mag)(hb:Fit b.mag):Contract prg 102 [a.pv,b.pv] (Sym.whole (a.val*b.val)).pv:=by
 have h1:=mag a ha
 have h2:=mag b hb
 have h3:=neg a ha
 have h4:=neg b hb
 have la:(words a.val.natAbs).length≤a.mag.length:=val_natAbs_le a
 have lb:(words b.val.natAbs).length≤b.mag.length:=val_natAbs_le b
 have ht:=times (words a.val.natAbs) (words b.val.natAbs) (by omega) (by omega)
 rw[nat_words,nat_words] at ht
 have hl:(words (a.val.natAbs*b.val.natAbs)).length≤(words a.val.natAbs).length+(words b.val.natAbs).length:=by
  have:=wl_mul a.val b.val
  unfold wl at this
  rw[Int.natAbs_mul] at this;exact this
 have hw:=form (!(decide (a.val<0)==decide (b.val<0))) (words (a.val.natAbs*b.val.natAbs)) (by omega)
 rw[nat_words] at hw
 have e:(bif !(decide (a.val<0)==decide (b.val<0)) then -((a.val.natAbs*b.val.natAbs:Nat):Int) else ((a.val.natAbs*b.val.natAbs:Nat):Int))=a.val*b.val:=by
  by_cases h:a.val<0<;>by_cases h':b.val<0<;>simp only[h,h',decide_true,decide_false,beq_self_eq_true,Bool.not_true,cond_false,Bool.not_false,cond_true,show(true==false)=false from rfl,show(false==true)=false from rfl]
  ·rw[←Int.natAbs_mul,Int.natAbs_of_nonneg (Int.mul_nonneg_of_nonpos_of_nonpos (by omega) (by omega))]
  ·rw[←Int.natAbs_mul,Int.ofNat_natAbs_of_nonpos (Int.mul_nonpos_of_nonpos_of_nonneg (by omega) (by omega))];omega
  ·rw[←Int.natAbs_mul,Int.ofNat_natAbs_of_nonpos (Int.mul_nonpos_of_nonneg_of_nonpos (by omega) (by omega))];omega
  ·rw[←Int.natAbs_mul,Int.natAbs_of_nonneg (Int.mul_nonneg (by omega) (by omega))]
 rw[e] at hw
 exact linkworkref01_Mul.e0 a b _ _ _ _ _ _ h3 h4 h1 h2 ht hw
theorem Of(n:Int)(h:InI64 n):Contract prg 66 [vI n] (Sym.whole n).pv:=by
 obtain⟨g1,g2⟩:=h
 have e32:(2:Nat)^min 32 64=4294967296:=by decide
 have key:∀m:Nat,m=n.natAbs→∃w w1:UInt32,m%4294967296=w.toNat∧m/4294967296%4294967296=w1.toNat∧Contract prg 116 [(vB (decide (n<0))),(wordsPV [w,w1])] (Sym.whole n).pv:=by
  intro m hm
  obtain⟨w,hw⟩:=w_ex (m%4294967296) (by omega)
  obtain⟨w1,hw1⟩:=w_ex (m/4294967296%4294967296) (by omega)
  refine⟨w,w1,hw.symm,hw1.symm,?_⟩
  have:=form (decide (n<0)) [w,w1] (by simp)
  have e:nat [w,w1]=m:=by simp only[nat,hw,hw1];omega
  rw[e,hm] at this
  have e2:(bif decide (n<0) then -(n.natAbs:Int) else (n.natAbs:Int))=n:=by
   by_cases h:n<0
   ·simp[h];omega
   ·simp[h];omega
  rw[e2] at this;exact this
 by_cases hn:n<0
 ·obtain⟨w,w1,q1,q2,q3⟩:=key n.natAbs rfl
  exact linkworkref01_Of.e0 n (n%18446744073709551616).toNat n.natAbs w _ w1 _ (by omega) hn (by omega) q1 (by rw[e32]) q2 q3
 ·obtain⟨w,w1,q1,q2,q3⟩:=key n.natAbs rfl
  exact linkworkref01_Of.e1 n n.natAbs w _ w1 _ (by omega) (by omega) q1 (by rw[e32]) q2 q3
theorem Div(a b:AWhole)(ha:Fit a.mag)(hb:Fit b.mag)(h0:b.val≠0) :
  Contract prg 115 [a.pv,b.pv] (.tup [(Sym.whole (a.val/b.val)).pv,(Sym.whole (a.val%b.val)).pv,vI 0]):=by
 have h1:=mag a ha
 have h2:=mag b hb
 have h3:=neg a ha
 have h4:=neg b hb
 have la:(words a.val.natAbs).length≤a.mag.length:=val_natAbs_le a
 have lb:(words b.val.natAbs).length≤b.mag.length:=val_natAbs_le b
 have hsg:=Sign b hb
 have hs0:sgn b.val≠0:=by unfold sgn cmpI;split<;>(try split)<;>omega
 have hbp:0<b.val.natAbs:=by omega
 have hd:=divide (words a.val.natAbs) (words b.val.natAbs) (cn_words _) (by rw[nat_words];omega) (by omega) (by omega)
 rw[nat_words,nat_words] at hd
 have hq:=len_mono (Nat.div_le_self a.val.natAbs b.val.natAbs)
 have hr:=len_mono (Nat.le_of_lt (Nat.mod_lt a.val.natAbs hbp))
 have hdm:=Nat.div_add_mod a.val.natAbs b.val.natAbs
 have hml:=Nat.mod_lt a.val.natAbs hbp
 generalize hQ:a.val.natAbs/b.val.natAbs=q at *
 generalize hR:a.val.natAbs%b.val.natAbs=r at *
 have sb:b.val=if b.val<0 then -(b.val.natAbs:Int) else (b.val.natAbs:Int):=by split<;>omega
 have uniq:∀x y:Int,a.val=b.val*x+y→0≤y→y<b.val.natAbs→a.val/b.val=x∧a.val%b.val=y:=by
  intro x y e1 e2 e3
  rcases Int.lt_or_gt_of_ne h0 with hb'|hb'
  ·exact(Int.ediv_emod_unique' hb').2 ⟨by omega,e2,by omega⟩
  ·exact(Int.ediv_emod_unique hb').2 ⟨by omega,e2,by omega⟩
 by_cases hn:a.val<0
 ·by_cases hr0:r=0
  ·have hw:=form (!(decide (a.val<0)==decide (b.val<0))) (words q) (by omega)
   have hw2:=form false (words r) (by omega)
   rw[nat_words] at hw hw2
   subst hr0
   have e:a.val/b.val=(bif !(decide (a.val<0)==decide (b.val<0)) then -(q:Int) else (q:Int))∧a.val%b.val=0:=by
    refine uniq _ 0 ?_ (by omega) (by omega)
    have hq':(a.val.natAbs:Int)=(b.val.natAbs:Int)*q:=by rw[←hdm];simp
    by_cases h':b.val<0
    ·simp only[hn,h',decide_true,beq_self_eq_true,Bool.not_true,cond_false]
     have:(b.val.natAbs:Int) = -b.val:=by omega
     rw[this] at hq'
     have:(a.val.natAbs:Int) = -a.val:=by omega
     rw[this,Int.neg_mul] at hq'
     omega
    ·simp only[hn,h',decide_true,decide_false,show(true==false)=false from rfl,Bool.not_false,cond_true]
     have:(b.val.natAbs:Int)=b.val:=by omega
     rw[this] at hq'
     have:(a.val.natAbs:Int) = -a.val:=by omega
     rw[this] at hq'
     rw[Int.mul_neg];omega
   rw[e.1,e.2]
   exact linkworkref01_Div.e2 a b _ _ _ _ _ _ _ _ _ _ hsg hs0 h1 h2 hd h3 (decide_eq_true hn) (by rw[words_zero];simp) h3 h4 hw hw2
  ·have hp:=plus (words q) [1] (by omega) (by simp)
   have hl:=minus (words b.val.natAbs) (words r) (by omega) (by rw[nat_words,nat_words];omega)
   rw[nat_words] at hp
   rw[nat_words,nat_words] at hl
   have e1:nat [1]=1:=rfl
   rw[e1] at hp
   have hl1:=len_of_lt (n:=q+1) (k:=(words q).length+1) (by have:=lt_of_len q;rw[Nat.pow_succ];omega)
   have hl2:=len_mono (show b.val.natAbs-r≤b.val.natAbs by omega)
   have hw:=form (!(decide (a.val<0)==decide (b.val<0))) (words (q+1)) (by omega)
   have hw2:=form false (words (b.val.natAbs-r)) (by omega)
   rw[nat_words] at hw hw2
   have e:a.val/b.val=(bif !(decide (a.val<0)==decide (b.val<0)) then -((q+1:Nat):Int) else ((q+1:Nat):Int))∧a.val%b.val=((b.val.natAbs-r:Nat):Int):=by
    refine uniq _ _ ?_ (by omega) (by omega)
    have hq':(a.val.natAbs:Int)=(b.val.natAbs:Int)*q+r:=by rw[←hdm];simp
    by_cases h':b.val<0
    ·simp only[hn,h',decide_true,beq_self_eq_true,Bool.not_true,cond_false]
     have e5:(b.val.natAbs:Int) = -b.val:=by omega
     rw[e5] at hq'
     have:(a.val.natAbs:Int) = -a.val:=by omega
     rw[this,Int.neg_mul] at hq'
     rw[show ((q+1:Nat):Int)=(q:Int)+1 from by omega,Int.mul_add]
     omega
    ·simp only[hn,h',decide_true,decide_false,show(true==false)=false from rfl,Bool.not_false,cond_true]
     have:(b.val.natAbs:Int)=b.val:=by omega
     rw[this] at hq'
     have:(a.val.natAbs:Int) = -a.val:=by omega
     rw[this] at hq'
     rw[show ((q+1:Nat):Int)=(q:Int)+1 from by omega,Int.mul_neg,Int.mul_add];omega
   rw[e.1,e.2]
   exact linkworkref01_Div.e1 a b _ _ _ _ _ _ _ _ _ _ _ _ _ hsg hs0 h1 h2 hd h3 (decide_eq_true hn) (by have:=(words_len0 (n:=r)).1;omega) hp h2 hl h3 h4 hw hw2
 ·have hw:=form (!(decide (a.val<0)==decide (b.val<0))) (words q) (by omega)
  have hw2:=form false (words r) (by omega)
  rw[nat_words] at hw hw2
  have e:a.val/b.val=(bif !(decide (a.val<0)==decide (b.val<0)) then -(q:Int) else (q:Int))∧a.val%b.val=(r:Int):=by
   refine uniq _ _ ?_ (by omega) (by omega)
   have hq':(a.val.natAbs:Int)=(b.val.natAbs:Int)*q+r:=by rw[←hdm];simp
   by_cases h':b.val<0
   ·simp only[hn,h',decide_true,decide_false,show(false==true)=false from rfl,Bool.not_false,cond_true]
    have e5:(b.val.natAbs:Int) = -b.val:=by omega
    rw[e5] at hq'
    have:(a.val.natAbs:Int)=a.val:=by omega
    rw[this,Int.neg_mul] at hq'
    rw[Int.mul_neg];omega
   ·simp only[hn,h',decide_false,beq_self_eq_true,Bool.not_true,cond_false]
    have:(b.val.natAbs:Int)=b.val:=by omega
    rw[this] at hq'
    have:(a.val.natAbs:Int)=a.val:=by omega
    rw[this] at hq'
    omega
  rw[e.1,e.2]
  exact linkworkref01_Div.e3 a b _ _ _ _ _ _ _ _ _ _ hsg hs0 h1 h2 hd h3 (decide_eq_false hn) h3 h4 hw hw2
theorem Cmp(a b:AWhole)(ha:a.mag.length<1099511627776)(hb:b.mag.length<1099511627776):Contract prg 128 [a.pv,b.pv] (vI (cmpI a.val b.val)):=by
 have h1:=Sub a b (by omega) (by omega)
 have h2:=Sign (Sym.whole (a.val-b.val)) (by
  have g1:=wl_add a.val (-b.val)
  have g2:=val_natAbs_le a
  have g3:=val_natAbs_le b
  rw[wl_neg,←Int.sub_eq_add_neg] at g1
  show wl (a.val-b.val)≤_
  omega)
 rw[whole_val] at h2
 have e:sgn (a.val-b.val)=cmpI a.val b.val:=by
  unfold sgn cmpI
  split<;>split<;>(try split)<;>(try split)<;>omega
 rw[←e]
 exact linkworkref01_Cmp.e0 a b _ _ h1 h2
theorem Gcd(a b:AWhole)(ha:Fit a.mag)(hb:Fit b.mag):Contract prg 114 [a.pv,b.pv] (Sym.whole (Nat.gcd a.val.natAbs b.val.natAbs)).pv:=by
 have la:(words a.val.natAbs).length≤a.mag.length:=val_natAbs_le a
 have lb:(words b.val.natAbs).length≤b.mag.length:=val_natAbs_le b
 have hg:=gcd (words a.val.natAbs) (words b.val.natAbs) (by omega) (by omega)
 rw[nat_words,nat_words] at hg
 have hl:(words (Nat.gcd a.val.natAbs b.val.natAbs)).length≤1099511627776:=by
  by_cases h:b.val.natAbs=0
  ·rw[h,Nat.gcd_zero_right];omega
  ·exact gcd_len (by omega) (by omega)
 have hw:=form false (words (Nat.gcd a.val.natAbs b.val.natAbs)) (by omega)
 rw[nat_words] at hw
 exact linkworkref01_Gcd.e0 a b _ _ _ _ (mag a ha) (mag b hb) hg hw
end CRa
end Go.Proofs.YtboilcfohmmpbaaGreatDoor.Sym
namespace Go.Proofs.YtboilcfohmmpbaaGreatDoor.Sym
open CInt
set_option linter.unusedVariables false
def ARat.valid(a:ARat):Bool :=
 bif a.num.isEmpty&&a.den.isEmpty then !a.neg else !a.num.isEmpty&&(!a.den.isEmpty&&(cn a.num&&(cn a.den&&Nat.beq (Nat.gcd (nat a.num) (nat a.den)) 1)))
def ARat.val(a:ARat):Rat:=bif a.valid && !a.num.isEmpty then Rat.divInt (bif a.neg then -(nat a.num:Int) else (nat a.num:Int)) (nat a.den:Int) else 0
def mkR(q:Rat):ARat:=bif q.num.natAbs.beq 0 then ⟨false,[],[]⟩ else ⟨decide (q.num<0),words q.num.natAbs,words q.den⟩
theorem beq_iff{a b:Nat} : Nat.beq a b=true↔a=b:=⟨Nat.eq_of_beq_eq_true,fun h=>by subst h;exact Nat.beq_refl a⟩
theorem beq_fal{a b:Nat} : Nat.beq a b=false↔a≠b:=by
 constructor
 ·intro h e;rw[beq_iff.2 e] at h;cases h
 ·intro h
  cases hb:Nat.beq a b with
  |true=>exact absurd (beq_iff.1 hb) h
  |false=>rfl
theorem mkR_zero:mkR 0=⟨false,[],[]⟩:=rfl
theorem mkR_ne{q:Rat}(h:q≠0):mkR q=⟨decide (q.num<0),words q.num.natAbs,words q.den⟩:=by
 unfold mkR
 rw[beq_fal.2 (by intro e;exact h (Rat.num_eq_zero.1 (by omega))),cond_false]
theorem isEmpty_words{n:Nat} : (words n).isEmpty=Nat.beq n 0:=by
 by_cases h:n=0
 ·subst h;rfl
 ·rw[beq_fal.2 h,isEmpty_len]
  rw[decide_eq_false (by rw[words_len0];exact h)]
theorem mkR_valid(q:Rat):(mkR q).valid=true:=by
 by_cases h:q=0
 ·subst h;rfl
 ·rw[mkR_ne h]
  unfold ARat.valid
  have h1:q.num.natAbs≠0:=by intro e;exact h (Rat.num_eq_zero.1 (by omega))
  simp only[isEmpty_words,beq_fal.2 h1,beq_fal.2 q.den_nz,Bool.and_self,Bool.not_false,cond_false,cn_words,nat_words,Bool.true_and]
  exact beq_iff.2 q.reduced
theorem valid_parts{a:ARat}(hv:a.valid=true)(h0:a.num≠[]):a.den≠[]∧cn a.num=true∧cn a.den=true∧Nat.gcd (nat a.num) (nat a.den)=1:=by
 have h1:a.num.isEmpty=false:=by cases h:a.num with
  |nil=>exact absurd h h0
  |cons=>rfl
 unfold ARat.valid at hv
 rw[h1,Bool.false_and,cond_false,Bool.not_false,Bool.true_and] at hv
 simp only[Bool.and_eq_true] at hv
 obtain⟨g1,g2,g3,g4⟩:=hv
 refine⟨?_,g2,g3,beq_iff.1 g4⟩
 intro e;rw[e] at g1;cases g1
theorem valid_zero{a:ARat}(hv:a.valid=true)(h0:a.num=[]):a=⟨false,[],[]⟩:=by
 obtain⟨n,m,d⟩:=a
 subst h0
 unfold ARat.valid at hv
 cases d with
 |nil=>cases n with
  |false=>rfl
  |true=>cases hv
 |cons=>cases hv
theorem val_parts{a:ARat}(hv:a.valid=true)(h0:a.num≠[]):a.val.num=(bif a.neg then -(nat a.num:Int) else (nat a.num:Int))∧a.val.den=nat a.den:=by
 obtain⟨g1,g2,g3,g4⟩:=valid_parts hv h0
 have h1:a.num.isEmpty=false:=by cases h:a.num with
  |nil=>exact absurd h h0
  |cons=>rfl
 have hd:=cn_pos g3 g1
 unfold ARat.val
 rw[hv,h1,Bool.not_false,Bool.and_self,cond_true,Rat.divInt_ofNat]
 have hr:Nat.Coprime (bif a.neg then -(nat a.num:Int) else (nat a.num:Int)).natAbs (nat a.den):=by
  cases a.neg<;>simp<;>exact g4
 rw[←Rat.mk_eq_mkRat _ _ (by omega) hr]
 exact⟨rfl,rfl⟩
theorem val_ne{a:ARat}(hv:a.valid=true)(h0:a.num≠[]):a.val≠0:=by
 obtain⟨g1,g2,g3,g4⟩:=valid_parts hv h0
 have:=cn_pos g2 h0
 intro e
 have h:=(val_parts hv h0).1
 rw[e] at h
 have h:(0:Int)=_:=h
 cases hn:a.neg<;>rw[hn] at h<;>simp at h<;>omega
theorem val_inv{a:ARat}(hv:a.valid=false):a.val=0:=by unfold ARat.val;rw[hv];rfl
theorem val_nil{a:ARat}(h:a.num=[]):a.val=0:=by unfold ARat.val;rw[h];simp
theorem mkR_of{a:ARat}(hv:a.valid=true):mkR a.val=a:=by
 by_cases h0:a.num=[]
 ·rw[val_nil h0,valid_zero hv h0];rfl
 ·obtain⟨g1,g2,g3,g4⟩:=valid_parts hv h0
  have hp:=cn_pos g2 h0
  obtain⟨e1,e2⟩:=val_parts hv h0
  rw[mkR_ne (val_ne hv h0),e1,e2,words_nat g3]
  obtain⟨n,m,d⟩:=a
  cases n
  ·simp only[cond_false,Int.natAbs_natCast,words_nat g2,ARat.mk.injEq,and_true,decide_eq_false_iff_not]
   omega
  ·simp only[cond_true,Int.natAbs_neg,Int.natAbs_natCast,words_nat g2,ARat.mk.injEq,and_true,decide_eq_true_eq]
   simp only at hp
   omega
theorem mkR_inj{p q:Rat}(h:mkR p=mkR q):p=q:=by
 by_cases hp:p=0
 ·subst hp
  by_cases hq:q=0
  ·exact hq.symm
  ·rw[mkR_zero,mkR_ne hq] at h
   injection h with _ h _
   have:=words_nil.1 h.symm
   exact absurd (Rat.num_eq_zero.1 (by omega)) hq
 ·by_cases hq:q=0
  ·subst hq
   rw[mkR_zero,mkR_ne hp] at h
   injection h with _ h _
   have:=words_nil.1 h
   exact absurd (Rat.num_eq_zero.1 (by omega)) hp
  ·rw[mkR_ne hp,mkR_ne hq] at h
   injection h with h1 h2 h3
   have h2:=congrArg nat h2
   have h3:=congrArg nat h3
   rw[nat_words,nat_words] at h2 h3
   refine Rat.ext ?_ h3
   by_cases h:p.num<0
   ·have:q.num<0:=by simpa[h] using h1.symm
    omega
   ·have:¬q.num<0:=by simpa[h] using h1.symm
    omega
theorem mkR_val(q:Rat):(mkR q).val=q:=mkR_inj (mkR_of (mkR_valid q))
def ht(q:Rat):Nat:=max (wl q.num) (wl (q.den:Int))
abbrev FitR(a:ARat):Prop:=a.num.length≤274877906944∧a.den.length≤274877906944
theorem ht_zero:ht 0=1:=by decide
theorem ht_pos(q:Rat):1≤ht q:=by
 have h:(words q.den).length≠0:=by rw[Ne,words_len0];exact q.den_nz
 have:wl (q.den:Int)≤ht q:=Nat.le_max_right _ _
 have h2:wl (q.den:Int)=(words q.den).length:=rfl
 omega
theorem ht_num(q:Rat):wl q.num≤ht q:=Nat.le_max_left _ _
theorem ht_den(q:Rat):wl (q.den:Int)≤ht q:=Nat.le_max_right _ _
theorem fit_mkR{q:Rat}(h:ht q≤274877906944):FitR (mkR q):=by
 by_cases h0:q=0
 ·subst h0;constructor<;>simp[mkR_zero]
 ·rw[mkR_ne h0]
  exact⟨Nat.le_trans (ht_num q) h,Nat.le_trans (ht_den q) h⟩
theorem ht_fit{a:ARat}{k:Nat}(h1:a.num.length≤k)(h2:a.den.length≤k)(hk:1≤k):ht a.val≤k:=by
 by_cases hv:a.valid=true
 ·by_cases h0:a.num=[]
  ·rw[val_nil h0,ht_zero];exact hk
  ·obtain⟨g1,g2,g3,g4⟩:=valid_parts hv h0
   obtain⟨e1,e2⟩:=val_parts hv h0
   unfold ht
   rw[e1,e2]
   refine Nat.max_le.2 ⟨?_,?_⟩
   ·have e:(bif a.neg then -(nat a.num:Int) else (nat a.num:Int)).natAbs=nat a.num:=by cases a.neg<;>simp
    show(words _).length≤k
    rw[e,words_nat g2];exact h1
   ·show(words _).length≤k
    rw[Int.natAbs_natCast,words_nat g3];exact h2
 ·rw[val_inv (by simpa using hv),ht_zero];exact hk
theorem wl_le_mono{i j:Int}(h:i.natAbs≤j.natAbs):wl i≤wl j:=len_mono h
theorem ht_divInt(n d:Int):ht (Rat.divInt n d)≤max (wl n) (max (wl d) 1):=by
 by_cases hd:d=0
 ·subst hd
  rw[Rat.divInt_zero,ht_zero];omega
 ·unfold ht
  refine Nat.max_le.2 ⟨Nat.le_trans (wl_le_mono ?_) (Nat.le_max_left _ _),Nat.le_trans (wl_le_mono (j:=d) ?_) (Nat.le_trans (Nat.le_max_left _ _) (Nat.le_max_right _ _))⟩
  ·rw[Rat.num_divInt]
   have h1:=Int.natAbs_ediv_of_dvd (a:=d.sign*n) (b:=(d.gcd n:Int)) (by
    exact Int.dvd_mul_of_dvd_right (Int.gcd_dvd_right d n))
   rw[h1,Int.natAbs_mul,Int.natAbs_sign_of_ne_zero hd,Nat.one_mul]
   exact Nat.div_le_self _ _
  ·rw[Rat.den_divInt,if_neg hd,Int.natAbs_natCast]
   exact Nat.div_le_self _ _
theorem wl_one:wl 1=1:=rfl
theorem ht_mkRat(n:Int)(d:Nat):ht (mkRat n d)≤max (wl n) (max (wl (d:Int)) 1):=by
 rw[←Rat.divInt_ofNat];exact ht_divInt n d
theorem ht_neg(a:Rat):ht (-a)=ht a:=by
 unfold ht
 rw[Rat.neg_num,wl_neg,Rat.neg_den]
theorem ht_mul(a b:Rat):ht (a*b)≤ht a+ht b:=by
 rw[Rat.mul_def']
 have h1:=ht_mkRat (a.num*b.num) (a.den*b.den)
 have h2:=wl_mul a.num b.num
 have h3:=wl_mul (a.den:Int) (b.den:Int)
 have h4:=ht_num a
 have h5:=ht_den a
 have h6:=ht_num b
 have h7:=ht_den b
 have h8:=ht_pos a
 rw[←Int.natCast_mul] at h3
 omega
theorem ht_add(a b:Rat):ht (a+b)≤ht a+ht b+1:=by
 rw[Rat.add_def']
 have h1:=ht_mkRat (a.num*b.den+b.num*a.den) (a.den*b.den)
 have h2:=wl_mul a.num b.den
 have h3:=wl_mul b.num a.den
 have h9:=wl_add (a.num*b.den) (b.num*a.den)
 have h10:=wl_mul (a.den:Int) (b.den:Int)
 have h4:=ht_num a
 have h5:=ht_den a
 have h6:=ht_num b
 have h7:=ht_den b
 have h8:=ht_pos a
 rw[←Int.natCast_mul] at h10
 omega
theorem ht_sub(a b:Rat):ht (a-b)≤ht a+ht b+1:=by
 rw[Rat.sub_eq_add_neg,←ht_neg b];exact ht_add a (-b)
theorem ht_inv(a:Rat):ht a⁻¹≤ht a:=by
 rw[Rat.inv_def]
 have h1:=ht_divInt (a.den:Int) a.num
 have h4:=ht_num a
 have h5:=ht_den a
 have h8:=ht_pos a
 omega
theorem ht_div(a b:Rat):ht (a/b)≤ht a+ht b:=by
 rw[Rat.div_def]
 have:=ht_mul a b⁻¹
 have:=ht_inv b
 omega
theorem ht_int(n:Int):ht (n:Rat)=max (wl n) 1:=by
 unfold ht
 rw[Rat.num_intCast,Rat.den_intCast];rfl
def cmpR(p q:Rat):Int:=if p<q then -1 else if p=q then 0 else 1
theorem cmpR_int(p q:Rat):cmpI (p.num*q.den) (q.num*p.den)=cmpR p q:=by
 unfold cmpI cmpR
 have h1:=Rat.lt_iff p q
 have h2:p=q↔p.num*q.den=q.num*p.den:=by
  constructor
  ·intro h;subst h;rfl
  ·intro h
   have g1:=(Rat.le_iff p q).2 (by omega)
   have g2:=(Rat.le_iff q p).2 (by omega)
   exact Rat.le_antisymm g1 g2
 simp only[h1,h2]
theorem num_lt(p:Rat):p.num<0↔p<0:=by
 rw[Rat.lt_iff]
 simp
theorem cmpR_sub(p q:Rat):sgn (p-q).num=cmpR p q:=by
 unfold sgn cmpI cmpR
 have h1:(p-q).num<0↔p<q:=by
  rw[num_lt];constructor<;>intro h<;>grind
 have h2:(p-q).num=0↔p=q:=by
  rw[Rat.num_eq_zero];constructor<;>intro h<;>grind
 simp only[h1,h2]
theorem cmpR_zero(p:Rat):sgn p.num=cmpR p 0:=by
 have:=cmpR_sub p 0
 rwa[show p-0=p from by grind] at this
theorem cmpR_eq{p q:Rat} : cmpR p q=0↔p=q:=by
 unfold cmpR;split
 ·rename_i h;constructor
  ·intro h;cases h
  ·intro e;subst e;exact absurd h (Rat.lt_irrefl)
 ·split
  ·simp_all
  ·simp_all
theorem divInt_parts{n d:Int}(hd:0<d)(g:Nat)(hg:g=Nat.gcd n.natAbs d.natAbs):(Rat.divInt n d).num=n/(g:Int)∧((Rat.divInt n d).den:Int)=d/(g:Int):=by
 have e:d.gcd n=g:=by rw[hg,Nat.gcd_comm];rfl
 refine⟨?_,?_⟩
 ·rw[Rat.num_divInt,e,Int.sign_eq_one_of_pos hd,Int.one_mul]
 ·rw[Rat.den_divInt,if_neg (by omega),e,Int.natCast_ediv,Int.natAbs_of_nonneg (by omega)]
end Go.Proofs.YtboilcfohmmpbaaGreatDoor.Sym
namespace Go.Proofs.YtboilcfohmmpbaaGreatDoor.Sym.Dt
open Go
abbrev Mx:=Nat→Nat→Rat
def sumN:Nat→(Nat→Rat)→Rat
 |0,_=>0
 |n+1,f=>sumN n f+f n
theorem sumN_congr{f g:Nat→Rat} : ∀{n:Nat},(∀i,i<n→f i=g i)→sumN n f=sumN n g
 |0,_=>rfl
 |n+1,h=>by rw[sumN,sumN,sumN_congr (fun i hi=>h i (by omega)),h n (by omega)]
theorem sumN_lin(a:Rat)(f g:Nat→Rat):∀n,sumN n (fun i=>f i+a*g i)=sumN n f+a*sumN n g
 |0=>by show(0:Rat)=0+a*0;grind
 |n+1=>by rw[sumN,sumN,sumN,sumN_lin a f g n];grind
theorem sumN_zero{f:Nat→Rat} : ∀{n:Nat},(∀i,i<n→f i=0)→sumN n f=0
 |0,_=>rfl
 |n+1,h=>by rw[sumN,sumN_zero (fun i hi=>h i (by omega)),h n (by omega)];grind
theorem sumN_one{f:Nat→Rat}{k:Nat} : ∀{n:Nat},k<n→(∀i,i<n→i≠k→f i=0)→sumN n f=f k
 |0,hk,_=>by omega
 |n+1,hk,h=>by
  rw[sumN]
  by_cases hkn:k=n
  ·subst hkn;rw[sumN_zero (fun i hi=>h i (by omega) (by omega))];grind
  ·rw[sumN_one (by omega) (fun i hi hik=>h i (by omega) hik),h n (by omega) (fun e=>hkn e.symm)];grind
theorem sumN_two{f:Nat→Rat}{r:Nat}(h2:f r+f (r+1)=0):∀{n:Nat},r+1<n→(∀i,i<n→i≠r→i≠r+1→f i=0)→sumN n f=0
 |0,hk,_=>by omega
 |n+1,hk,h=>by
  rw[sumN]
  by_cases hkn:r+1=n
  ·subst hkn;rw[sumN_one (k:=r) (by omega) (fun i hi hik=>h i (by omega) hik (by omega))];exact h2
  ·rw[sumN_two h2 (by omega) (fun i hi h1 h3=>h i (by omega) h1 h3),h n (by omega) (by omega) (fun e=>hkn e.symm)];grind
def minor(r:Nat)(M:Mx):Mx:=fun i j=>M (if i<r then i else i+1) (j+1)
def sgnP(i:Nat):Rat:=if i%2=0 then 1 else -1
theorem sgnP_succ(i:Nat):sgnP (i+1) = - sgnP i:=by
 unfold sgnP
 by_cases h:i%2=0
 ·rw[if_neg (by omega),if_pos h]
 ·rw[if_pos (by omega),if_neg h];grind
def D:Nat→Mx→Rat
 |0,_=>1
 |n+1,M=>sumN (n+1) fun i=>sgnP i*M i 0*D n (minor i M)
theorem D_ext:∀{n:Nat} {M N:Mx},(∀i j,i<n→j<n→M i j=N i j)→D n M=D n N
 |0,_,_,_=>rfl
 |n+1,M,N,h=>by
  rw[D,D]
  refine sumN_congr fun i hi => ?_
  rw[h i 0 hi (by omega),D_ext (M:=minor i M) (N:=minor i N) (fun a b ha hb=>h _ _ (by split<;>omega) (by omega))]
def upd(r:Nat)(v:Nat→Rat)(M:Mx):Mx:=fun i j=>if i=r then v j else M i j
theorem upd_self{r:Nat}{v:Nat→Rat}{M:Mx}(j:Nat):upd r v M r j=v j:=if_pos rfl
theorem upd_ne{r i:Nat}{v:Nat→Rat}{M:Mx}(h:i≠r)(j:Nat):upd r v M i j=M i j:=if_neg h
theorem minor_upd_self(r:Nat)(v:Nat→Rat)(M:Mx):minor r (upd r v M)=minor r M:=by
 funext i j
 unfold minor upd
 rw[if_neg (by split<;>omega)]
theorem minor_upd{r i:Nat}(h:i≠r)(v:Nat→Rat)(M:Mx):minor i (upd r v M)=upd (if r<i then r else r-1) (fun j=>v (j+1)) (minor i M):=by
 funext a b
 unfold minor upd
 by_cases h1:a<i
 ·simp only[h1,if_true]
  by_cases h2:r<i
  ·simp only[h2,if_true]
  ·simp only[h2,if_false]
   rw[if_neg (by omega),if_neg (by omega)]
 ·simp only[h1,if_false]
  by_cases h2:r<i
  ·simp only[h2,if_true]
   rw[if_neg (by omega),if_neg (by omega)]
  ·simp only[h2,if_false]
   by_cases h3:a+1=r
   ·rw[if_pos h3,if_pos (by omega)]
   ·rw[if_neg h3,if_neg (by omega)]
theorem D_lin(a:Rat):∀{n r:Nat} (u v:Nat→Rat) (M:Mx),r<n→D n (upd r (fun j=>u j+a*v j) M)=D n (upd r u M)+a*D n (upd r v M)
 |0,r,_,_,_,h=>by omega
 |n+1,r,u,v,M,h=>by
  rw[D,D,D,←sumN_lin]
  refine sumN_congr fun i hi => ?_
  by_cases hir:i=r
  ·subst hir
   rw[minor_upd_self,minor_upd_self,minor_upd_self,upd_self,upd_self,upd_self];grind
  ·rw[minor_upd hir,minor_upd hir,minor_upd hir,upd_ne hir,upd_ne hir,upd_ne hir,D_lin a (fun j=>u (j+1)) (fun j=>v (j+1)) (minor i M) (by split<;>omega)]
   grind
theorem D_adj:∀{n r:Nat} {M:Mx},r+1<n→(∀j,j<n→M r j=M (r+1) j)→D n M=0
 |0,r,_,h,_=>by omega
 |n+1,r,M,h,he=>by
  rw[D]
  refine sumN_two (r:=r) ?_ h (fun i hi h1 h2 => ?_)
  ·have hm:D n (minor r M)=D n (minor (r+1) M):=D_ext (fun a b ha hb=>by
    unfold minor
    by_cases h1:a<r
    ·rw[if_pos h1,if_pos (by omega)]
    ·rw[if_neg h1]
     by_cases h2:a=r
     ·subst h2;rw[if_pos (by omega)];exact(he (b+1) (by omega)).symm
     ·rw[if_neg (by omega)])
   rw[hm,sgnP_succ,he 0 (by omega)];grind
  ·have:D n (minor i M)=0:=by
    by_cases h3:i<r
    ·refine D_adj (r:=r-1) (by omega) (fun j hj => ?_)
     unfold minor
     rw[if_neg (by omega),if_neg (by omega),show r-1+1=r by omega]
     exact he (j+1) (by omega)
    ·refine D_adj (r:=r) (by omega) (fun j hj => ?_)
     unfold minor
     rw[if_pos (by omega),if_pos (by omega)]
     exact he (j+1) (by omega)
   rw[this];grind
theorem upd_comm{r k:Nat}(h:r≠k)(u v:Nat→Rat)(M:Mx):upd r u (upd k v M)=upd k v (upd r u M):=by
 funext i j
 unfold upd
 by_cases h1:i=r
 ·subst h1;simp[h]
 ·by_cases h2:i=k
  ·subst h2;simp[h1]
  ·simp[h1,h2]
theorem D_swapA{n r:Nat}(h:r+1<n)(u v:Nat→Rat)(M:Mx):D n (upd r u (upd (r+1) v M)) = - D n (upd r v (upd (r+1) u M)):=by
 have hne:r≠r+1:=by omega
 have z:∀x:Nat→Rat,D n (upd r x (upd (r+1) x M))=0:=fun x=>D_adj h (fun j _=>by rw[upd_self,upd_ne (by omega),upd_self])
 have e1:=z (fun j=>u j+1*v j)
 rw[D_lin 1 u v _ (by omega),upd_comm hne,upd_comm hne,D_lin 1 u v _ (by omega),D_lin 1 u v _ (by omega),←upd_comm hne,←upd_comm hne,←upd_comm hne,←upd_comm hne,z u,z v] at e1
 grind
theorem D_eqrow{n:Nat} : ∀(d:Nat) {i k:Nat} {M:Mx},k=i+d+1→k<n→(∀j,j<n→M i j=M k j)→D n M=0
 |0,i,k,M,hk,hn,he=>by subst hk;exact D_adj hn he
 |d+1,i,k,M,hk,hn,he=>by
  have h1:=D_swapA (n:=n) (r:=k-1) (by omega) (M (k-1)) (M k) M
  rw[show k-1+1=k by omega] at h1
  have h2:D n (upd (k-1) (M (k-1)) (upd k (M k) M))=D n M:=D_ext (fun a b _ _=>by
   unfold upd
   by_cases h3:a=k-1
   ·rw[if_pos h3,h3]
   ·rw[if_neg h3]
    by_cases h4:a=k
    ·rw[if_pos h4,h4]
    ·rw[if_neg h4])
  have h3:D n (upd (k-1) (M k) (upd k (M (k-1)) M))=0:=D_eqrow d (i:=i) (k:=k-1) (by omega) (by omega) (fun j hj=>by
   rw[upd_self,upd_ne (by omega),upd_ne (by omega)];exact he j hj)
  rw[h2,h3] at h1
  rw[h1];grind
structure DL (n:Nat) (F:Mx→Rat):Prop where
 ext:∀M N:Mx,(∀i j,i<n→j<n→M i j=N i j)→F M=F N
 add:∀(M:Mx) (i k:Nat) (a:Rat),i<n→k<n→i≠k→F (upd i (fun j=>M i j+a*M k j) M)=F M
 scale:∀(M:Mx) (i:Nat) (a:Rat),i<n→F (upd i (fun j=>a*M i j) M)=a*F M
theorem D_dl(n:Nat):DL n (D n):=by
 refine⟨fun M N h=>D_ext h,fun M i k a hi hk hik => ?_,fun M i a hi => ?_⟩
 ·rw[D_lin a (M i) (M k) M hi]
  have h1:D n (upd i (M i) M)=D n M:=D_ext (fun x y _ _=>by
   unfold upd
   by_cases h:x=i
   ·rw[if_pos h,h]
   ·rw[if_neg h])
  have h2:D n (upd i (M k) M)=0:=by
   by_cases h:i<k
   ·exact D_eqrow (k-i-1) (i:=i) (k:=k) (by omega) hk (fun j _=>by rw[upd_self,upd_ne (fun e=>hik e.symm)])
   ·exact D_eqrow (i-k-1) (i:=k) (k:=i) (by omega) hi (fun j _=>by rw[upd_self,upd_ne (fun e=>hik e.symm)])
  rw[h1,h2];grind
 ·have h0:D n (upd i (fun _=>0) M)=0:=by
   have:=D_lin 1 (fun _=>0) (fun _=>0) M hi
   have e:(fun _:Nat=>(0:Rat)+1*0)=fun _=>0:=by funext j;grind
   rw[e] at this
   grind
  have:=D_lin a (fun _=>0) (M i) M hi
  have e:(fun j=>(0:Rat)+a*M i j)=fun j=>a*M i j:=by funext j;grind
  rw[e,h0] at this
  rw[this,D_ext (M:=upd i (M i) M) (N:=M) (fun x y _ _=>by
   unfold upd
   by_cases h:x=i
   ·rw[if_pos h,h]
   ·rw[if_neg h])]
  grind
section
variable {n:Nat} {F:Mx→Rat}
theorem DL.addAll(h:DL n F)(M:Mx){k:Nat}(hk:k<n)(c:Nat→Rat)(hc:c k=0):F (fun i j=>M i j+c i*M k j)=F M:=by
 have step:∀t,t≤n→F (fun i j=>if i<t then M i j+c i*M k j else M i j)=F M:=by
  intro t
  induction t with
  |zero=>intro _;exact h.ext _ _ (fun i j _ _=>by simp)
  |succ t ih =>
   intro ht
   by_cases htk:t=k
   ·refine(h.ext _ _ (fun i j _ _ => ?_)).trans (ih (by omega))
    show(if i<t+1 then M i j+c i*M k j else M i j)=if i<t then M i j+c i*M k j else M i j
    by_cases h1:i<t
    ·rw[if_pos (by omega),if_pos h1]
    ·rw[if_neg h1]
     by_cases h2:i=t
     ·rw[if_pos (by omega),h2,htk,hc];grind
     ·rw[if_neg (by omega)]
   ·have e:=h.add (fun i j=>if i<t then M i j+c i*M k j else M i j) t k (c t) (by omega) hk htk
    refine(h.ext _ _ (fun i j _ _ => ?_)).trans (e.trans (ih (by omega)))
    show(if i<t+1 then M i j+c i*M k j else M i j)=if i=t then (if t<t then M t j+c t*M k j else M t j)+c t*(if k<t then M k j+c k*M k j else M k j) else if i<t then M i j+c i*M k j else M i j
    by_cases h2:i=t
    ·subst h2
     rw[if_pos (by omega),if_pos rfl,if_neg (by omega)]
     by_cases h3:k<i
     ·rw[if_pos h3,hc];grind
     ·rw[if_neg h3]
    ·rw[if_neg h2]
     by_cases h1:i<t
     ·rw[if_pos (by omega),if_pos h1]
     ·rw[if_neg (by omega),if_neg h1]
 rw[←step n (Nat.le_refl n)]
 exact h.ext _ _ (fun i j hi _=>by rw[if_pos hi])
def sw(r k:Nat)(M:Mx):Mx:=fun i j=>M (if i=r then k else if i=k then r else i) j
theorem DL.swap(h:DL n F)(M:Mx){r k:Nat}(hr:r<n)(hk:k<n)(hrk:r≠k):F (sw r k M) = - F M:=by
 have h1:=h.add M r k 1 hr hk hrk
 have h2:=h.add (upd r (fun j=>M r j+1*M k j) M) k r (-1) hk hr (fun e=>hrk e.symm)
 have h3:=h.add (upd k (fun j=>upd r (fun j=>M r j+1*M k j) M k j + -1*upd r (fun j=>M r j+1*M k j) M r j) (upd r (fun j=>M r j+1*M k j) M)) r k 1 hr hk hrk
 have h4:=h.scale (sw r k M) k (-1) hk
 have e:F (upd k (fun j => -1*sw r k M k j) (sw r k M))=F (upd r (fun j=>upd k (fun j=>upd r (fun j=>M r j+1*M k j) M k j + -1*upd r (fun j=>M r j+1*M k j) M r j) (upd r (fun j=>M r j+1*M k j) M) r j+1*upd k (fun j=>upd r (fun j=>M r j+1*M k j) M k j + -1*upd r (fun j=>M r j+1*M k j) M r j) (upd r (fun j=>M r j+1*M k j) M) k j) (upd k (fun j=>upd r (fun j=>M r j+1*M k j) M k j + -1*upd r (fun j=>M r j+1*M k j) M r j) (upd r (fun j=>M r j+1*M k j) M))):=by
  have hkr:k≠r:=fun e=>hrk e.symm
  refine h.ext _ _ (fun i j _ _ => ?_)
  unfold upd sw
  by_cases h5:i=r
  ·subst h5;simp[hrk,hkr];grind
  ·by_cases h6:i=k
   ·subst h6;simp[hkr];grind
   ·simp[h5,h6]
 rw[e,h3,h2,h1] at h4
 grind
theorem DL.zrow(h:DL n F){M:Mx}{i:Nat}(hi:i<n)(hz:∀j,j<n→M i j=0):F M=0:=by
 have h1:=h.scale M i 0 hi
 have h2:F (upd i (fun j=>0*M i j) M)=F M:=h.ext _ _ (fun a b _ hb=>by
  unfold upd
  by_cases h3:a=i
  ·rw[if_pos h3,h3,hz b hb];grind
  ·rw[if_neg h3])
 rw[h2] at h1;rw[h1];grind
def E(c:Nat)(M:Mx):Mx:=fun i j=>if c<i then M i j-M i c/M c c*M c j else M i j
theorem DL.elim(h:DL n F)(M:Mx){c:Nat}(hc:c<n):F (E c M)=F M:=by
 rw[←h.addAll M hc (fun i=>if c<i then -(M i c/M c c) else 0) (by simp)]
 refine h.ext _ _ (fun i j _ _ => ?_)
 unfold E
 by_cases h1:c<i
 ·simp only[h1,if_true];grind
 ·simp only[h1,if_false];grind
def E2(r c:Nat)(M:Mx):Mx:=fun i j=>if r<i then M i j-M i c/M r c*M r j else M i j
theorem DL.elim2(h:DL n F)(M:Mx){r:Nat}(c:Nat)(hc:r<n):F (E2 r c M)=F M:=by
 rw[←h.addAll M hc (fun i=>if r<i then -(M i c/M r c) else 0) (by simp)]
 refine h.ext _ _ (fun i j _ _ => ?_)
 unfold E2
 by_cases h1:r<i
 ·simp only[h1,if_true];grind
 ·simp only[h1,if_false];grind
theorem div_mul_self{a b:Rat}(h:b≠0):a/b*b=a:=by grind
theorem DL.sing(h:DL n F):∀(d:Nat) {r c:Nat} {M:Mx},n=c+d→r<c→r<n→(∀i j,r≤i→i<n→j<c→M i j=0)→F M=0
 |0,r,c,M,hd,hrc,hrn,hz=>h.zrow hrn (fun j hj=>hz r j (Nat.le_refl r) hrn (by omega))
 |d+1,r,c,M,hd,hrc,hrn,hz=>by
  by_cases hp:∃i,r≤i∧i<n∧M i c≠0
  ·obtain⟨p,h1,h2,h3⟩:=hp
   have key:∀N:Mx,N r c≠0→(∀i j,r≤i→i<n→j<c→N i j=0)→F N=0:=by
    intro N hN hNz
    rw[←h.elim2 N c hrn]
    by_cases hr1:r+1<n
    ·refine h.sing d (r:=r+1) (c:=c+1) (by omega) (by omega) hr1 (fun i j hi hin hj => ?_)
     unfold E2
     rw[if_pos (by omega)]
     by_cases hjc:j=c
     ·subst hjc;rw[div_mul_self hN];grind
     ·rw[hNz i j (by omega) hin (by omega),hNz r j (Nat.le_refl r) hrn (by omega)];grind
    ·omega
   by_cases hpr:p=r
   ·subst hpr;exact key M h3 hz
   ·have hs:=h.swap M hrn h2 (fun e=>hpr e.symm)
    have hk:F (sw r p M)=0:=key _ (by unfold sw;simpa using h3) (fun i j hi hin hj=>by
     unfold sw
     split
     ·exact hz p j h1 h2 hj
     ·split
      ·exact hz r j (Nat.le_refl r) hrn hj
      ·exact hz i j hi hin hj)
    rw[hk] at hs;grind
  ·by_cases hcn:c+1≤n
   ·refine h.sing d (r:=r) (c:=c+1) (by omega) (by omega) hrn (fun i j hi hin hj => ?_)
    by_cases hjc:j=c
    ·subst hjc
     exact Classical.byContradiction fun hne=>hp ⟨i,hi,hin,hne⟩
    ·exact hz i j hi hin (by omega)
   ·omega
def Idm:Mx:=fun i j=>if i=j then 1 else 0
def pr(c:Nat)(M:Mx):Rat:=match c with
 |0=>1
 |c+1=>pr c M*M c c
theorem pr_congr{M N:Mx} : ∀{c:Nat},(∀i,i<c→M i i=N i i)→pr c M=pr c N
 |0,_=>rfl
 |c+1,h=>by rw[pr,pr,pr_congr (fun i hi=>h i (by omega)),h c (by omega)]
theorem pr_zero{M:Mx}{k:Nat}(hz:M k k=0):∀{c:Nat},k<c→pr c M=0
 |0,h=>by omega
 |c+1,h=>by
  rw[pr]
  by_cases hk:k=c
  ·subst hk;rw[hz];grind
  ·rw[pr_zero hz (by omega)];grind
theorem DL.diag(h:DL n F):∀(t:Nat) {M:Mx},t≤n→(∀i j,i<n→j<n→i≠j→M i j=0)→(∀i,t≤i→i<n→M i i=1)→F M=pr t M*F Idm
 |0,M,_,ho,h1=>by
  rw[pr,h.ext M Idm (fun i j hi hj=>by
   unfold Idm
   by_cases hij:i=j
   ·subst hij;rw[if_pos rfl];exact h1 i (by omega) hi
   ·rw[if_neg hij];exact ho i j hi hj hij)]
  grind
 |t+1,M,ht,ho,h1=>by
  have e:=h.scale (upd t (Idm t) M) t (M t t) (by omega)
  have e1:F (upd t (fun j=>M t t*upd t (Idm t) M t j) (upd t (Idm t) M))=F M:=h.ext _ _ (fun i j hi hj=>by
   unfold upd Idm
   by_cases hit:i=t
   ·subst hit
    simp only[if_true]
    by_cases hij:i=j
    ·subst hij;simp
    ·rw[if_neg hij,ho i j hi hj hij];grind
   ·simp[hit])
  have e2:=h.diag t (M:=upd t (Idm t) M) (by omega) (fun i j hi hj hij=>by
   unfold upd Idm
   by_cases hit:i=t
   ·subst hit;simp[hij]
   ·simp[hit];exact ho i j hi hj hij) (fun i hi hin=>by
   unfold upd Idm
   by_cases hit:i=t
   ·subst hit;simp
   ·simp[hit];exact h1 i (by omega) hin)
  rw[e1,e2,pr_congr (M:=upd t (Idm t) M) (N:=M) (fun i hi=>by unfold upd;rw[if_neg (by omega)])] at e
  rw[e,pr];grind
theorem DL.tri(h:DL n F):∀(k:Nat) {M:Mx},k≤n→(∀i j,i<n→j<i→M i j=0)→(∀i j,i<n→k≤j→j<n→i≠j→M i j=0)→F M=pr n M*F Idm
 |0,M,_,hl,hu=>by
  exact h.diag n (Nat.le_refl n) (fun i j hi hj hij=>hu i j hi (Nat.zero_le _) hj hij) (fun i h1 h2=>by omega)
 |k+1,M,hk,hl,hu=>by
  by_cases hz:M k k=0
  ·rw[pr_zero hz (by omega),h.zrow (i:=k) (by omega) (fun j hj=>by
    by_cases h1:j<k
    ·exact hl k j (by omega) h1
    ·by_cases h2:j=k
     ·rw[h2];exact hz
     ·exact hu k j (by omega) (by omega) hj (fun e=>h2 e.symm))]
   grind
  ·have hadd:=h.addAll M (k:=k) (by omega) (fun i=>if i=k then 0 else -(M i k/M k k)) (by simp)
   rw[←hadd]
   have hrk:∀j,j<n→j≠k→M k j=0:=fun j hj hjk=>by
    by_cases h1:j<k
    ·exact hl k j (by omega) h1
    ·exact hu k j (by omega) (by omega) hj (fun e=>hjk e.symm)
   have heq:∀i j,i<n→j<n→j≠k→(M i j+(if i=k then 0 else -(M i k/M k k))*M k j)=M i j:=fun i j hi hj hjk=>by
    rw[hrk j hj hjk];grind
   have hkk:∀i,i≠k→(M i k+(if i=k then 0 else -(M i k/M k k))*M k k)=0:=fun i hik=>by
    rw[if_neg hik]
    have:=div_mul_self (a:=M i k) hz
    grind
   rw[h.tri k (M:=fun i j=>M i j+(if i=k then 0 else -(M i k/M k k))*M k j) (by omega) (fun i j hi hj => ?_) (fun i j hi hkj hj hij => ?_)]
   ·congr 1
    refine pr_congr (fun i hi => ?_)
    show M i i+(if i=k then 0 else -(M i k/M k k))*M k i=M i i
    by_cases hik:i=k
    ·rw[if_pos hik];grind
    ·exact heq i i hi hi hik
   ·by_cases hjk:j=k
    ·subst hjk;exact hkk i (by omega)
    ·have:=heq i j hi (by omega) hjk
     show(M i j+(if i=k then 0 else -(M i k/M k k))*M k j)=0
     rw[this];exact hl i j hi hj
   ·by_cases hjk:j=k
    ·subst hjk;exact hkk i hij
    ·have:=heq i j hi hj hjk
     show(M i j+(if i=k then 0 else -(M i k/M k k))*M k j)=0
     rw[this];exact hu i j hi (by omega) hj hij
end
def piv(M:Mx)(c:Nat):Nat→Nat→Nat
 |0,at'=>at'
 |f+1,at'=>if M at' c=0 then piv M c f (at'+1) else at'
theorem piv_spec(M:Mx)(c:Nat):∀(f a:Nat),a≤piv M c f a∧piv M c f a≤a+f∧(piv M c f a<a+f→M (piv M c f a) c≠0)∧∀i,a≤i→i<piv M c f a→M i c=0
 |0,a=>⟨Nat.le_refl _,Nat.le_refl _,fun h=>absurd h (by simp[piv]),fun i h1 h2=>by simp[piv] at h2;omega⟩
 |f+1,a=>by
  unfold piv
  by_cases h:M a c=0
  ·rw[if_pos h]
   obtain⟨h1,h2,h3,h4⟩:=piv_spec M c f (a+1)
   refine⟨by omega,by omega,fun hlt=>h3 (by omega),fun i hi hl => ?_⟩
   by_cases hia:i=a
   ·rw[hia];exact h
   ·exact h4 i (by omega) hl
  ·rw[if_neg h]
   exact⟨Nat.le_refl _,by omega,fun _=>h,fun i h1 h2=>by omega⟩
def detG(n:Nat):Nat→Nat→Rat→Mx→Rat
 |0,_,out,_=>out
 |f+1,c,out,M =>
  if piv M c (n-c) c=n then 0
  else if piv M c (n-c) c=c then detG n f (c+1) (out*M c c) (E c M)
  else detG n f (c+1) (-out*sw (piv M c (n-c) c) c M c c) (E c (sw (piv M c (n-c) c) c M))
def detF(n:Nat)(M:Mx):Rat:=detG n n 0 1 M
theorem E_low{n c:Nat}{M:Mx}(h:∀i j,i<n→j<c→j<i→M i j=0)(hc:M c c≠0)(hcn:c<n):∀i j,i<n→j<c+1→j<i→E c M i j=0:=by
 intro i j hi hj hji
 unfold E
 by_cases h1:c<i
 ·rw[if_pos h1]
  by_cases h2:j=c
  ·subst h2;rw[div_mul_self hc];grind
  ·rw[h i j hi (by omega) hji,h c j hcn (by omega) (by omega)];grind
 ·rw[if_neg h1];exact h i j hi (by omega) hji
theorem detG_spec{n:Nat}{F:Mx→Rat}(h:DL n F):∀(f c:Nat) (out:Rat) (M:Mx),c+f=n→(∀i j,i<n→j<c→j<i→M i j=0)→detG n f c out M*F Idm*pr c M=out*F M
 |0,c,out,M,hc,hl=>by
  have:c=n:=by omega
  subst this
  rw[detG,h.tri c (M:=M) (Nat.le_refl c) (fun i j hi hj=>hl i j hi (by omega) hj) (fun i j _ h1 h2=>by omega)];grind
 |f+1,c,out,M,hc,hl=>by
  have hcn:c<n:=by omega
  obtain⟨p1,p2,p3,p4⟩:=piv_spec M c (n-c) c
  unfold detG
  have step:∀(o:Rat) (N:Mx),N c c≠0→(∀i j,i<n→j<c→j<i→N i j=0)→pr c N=pr c M→detG n f (c+1) (o*N c c) (E c N)*F Idm*pr c M=o*F N:=by
   intro o N hN hNl hpr
   have ih:=detG_spec h f (c+1) (o*N c c) (E c N) (by omega) (E_low hNl hN hcn)
   have e1:pr (c+1) (E c N)=pr c M*N c c:=by
    rw[pr,←hpr,pr_congr (M:=E c N) (N:=N) (fun i hi=>by unfold E;rw[if_neg (by omega)])]
    congr 1
    unfold E;rw[if_neg (by omega)]
   rw[e1,h.elim N hcn] at ih
   have:(detG n f (c+1) (o*N c c) (E c N)*F Idm*pr c M)*N c c=(o*F N)*N c c:=by grind
   grind
  by_cases hpn:piv M c (n-c) c=n
  ·rw[if_pos hpn,h.sing (n-(c+1)) (r:=c) (c:=c+1) (M:=M) (by omega) (by omega) hcn (fun i j hi hin hj=>by
    by_cases hjc:j=c
    ·subst hjc;exact p4 i hi (by omega)
    ·exact hl i j hin (by omega) (by omega))]
   grind
  ·rw[if_neg hpn]
   by_cases hpc:piv M c (n-c) c=c
   ·rw[if_pos hpc]
    have:=p3 (by omega)
    rw[hpc] at this
    exact step out M this hl rfl
   ·rw[if_neg hpc]
    generalize hp:piv M c (n-c) c=p at *
    have hne:M p c≠0:=p3 (by omega)
    have hs:=h.swap M (r:=p) (k:=c) (by omega) hcn hpc
    have e:=step (-out) (sw p c M) (by unfold sw;rw[if_neg (fun e=>hpc e.symm),if_pos rfl];exact hne) (fun i j hi hj hji=>by
     unfold sw
     split
     ·exact hl c j hcn hj (by omega)
     ·split
      ·exact hl p j (by omega) hj (by omega)
      ·exact hl i j hi hj hji) (pr_congr (fun i hi=>by unfold sw;rw[if_neg (by omega),if_neg (by omega)]))
    rw[e,hs];grind
theorem D_idm:∀n,D n Idm=1
 |0=>rfl
 |n+1=>by
  rw[D,sumN_one (k:=0) (by omega) (fun i hi h=>by unfold Idm;rw[if_neg h];grind)]
  have:D n (minor 0 Idm)=D n Idm:=D_ext (fun i j _ _=>by unfold minor Idm;simp)
  rw[this,D_idm n]
  unfold sgnP Idm
  simp
theorem detF_eq(n:Nat)(M:Mx):detF n M=D n M:=by
 have:=detG_spec (D_dl n) n 0 1 M (by omega) (fun i j _ h=>by omega)
 rw[D_idm,pr] at this
 unfold detF;grind
end Go.Proofs.YtboilcfohmmpbaaGreatDoor.Sym.Dt
namespace Go.Proofs.YtboilcfohmmpbaaGreatDoor.Sym.Path
open Go
set_option maxRecDepth 20000
set_option linter.unusedVariables false
namespace fraction_Neg
theorem e0(a:ARat)(par par1 neg:AWhole)(forV:ARat)(h1:Contract prg 60 [a.pv] (.tup [par.pv,par1.pv]))(h2:Contract prg 62 [par.pv] neg.pv)(h3:Contract prg 61 [neg.pv,par1.pv] forV.pv):Contract prg 23 [a.pv] forV.pv :=
 Contract.ofL Tryz.func23 (by kernel_rfl) (L.done mixed tabOk (n:=78) (ns:=[1,1,1]) (tr:=[.reg [],.reg [.none,(.pv (.tup [par.pv,par1.pv]))],dr 4 1 [.none,(.pv neg.pv),.none,(.pv forV.pv)]]) (cj h1 (cj h2 (cj h3 True.intro))) (by kernel_rfl))
end fraction_Neg
namespace fraction_Cmp
theorem e0(a b:ARat)(par par1 par2 par3 mul mul1:AWhole)(cmp:Int)(h1:Contract prg 60 [a.pv] (.tup [par.pv,par1.pv]))(h2:Contract prg 60 [b.pv] (.tup [par2.pv,par3.pv]))(h3:Contract prg 64 [par.pv,par3.pv] mul.pv)(h4:Contract prg 64 [par2.pv,par1.pv] mul1.pv)(h5:Contract prg 63 [mul.pv,mul1.pv] (vI cmp)):Contract prg 24 [a.pv,b.pv] (vI cmp) :=
 Contract.ofL Tryz.func24 (by kernel_rfl) (L.done mixed tabOk (n:=84) (ns:=[1,1,1,1,1]) (tr:=[.reg [],.reg [.none,(.pv (.tup [par.pv,par1.pv]))],.reg [.none,(.pv (.tup [par2.pv,par3.pv]))],dr 7 1 [.none,.none,(.pv mul.pv),.none,.none,(.pv mul1.pv),(.pv (vI cmp))]]) (cj h1 (cj h2 (cj h3 (cj h4 (cj h5 True.intro))))) (by kernel_rfl))
end fraction_Cmp
namespace fraction_Mul
theorem e0(a b:ARat)(par par1 par2 par3 mul mul1:AWhole)(forV:ARat)(h1:Contract prg 60 [a.pv] (.tup [par.pv,par1.pv]))(h2:Contract prg 60 [b.pv] (.tup [par2.pv,par3.pv]))(h3:Contract prg 64 [par.pv,par2.pv] mul.pv)(h4:Contract prg 64 [par1.pv,par3.pv] mul1.pv)(h5:Contract prg 61 [mul.pv,mul1.pv] forV.pv):Contract prg 25 [a.pv,b.pv] forV.pv :=
 Contract.ofL Tryz.func25 (by kernel_rfl) (L.done mixed tabOk (n:=84) (ns:=[1,1,1,1,1]) (tr:=[.reg [],.reg [.none,(.pv (.tup [par.pv,par1.pv]))],.reg [.none,(.pv (.tup [par2.pv,par3.pv]))],dr 7 1 [.none,.none,(.pv mul.pv),.none,.none,(.pv mul1.pv),(.pv forV.pv)]]) (cj h1 (cj h2 (cj h3 (cj h4 (cj h5 True.intro))))) (by kernel_rfl))
end fraction_Mul
namespace linkworkref02_Of
theorem e0(n:Int)(of one:AWhole)(forV:ARat)(h1:Contract prg 66 [(vI n)] of.pv)(h2:Contract prg 67 [] one.pv)(h3:Contract prg 65 [of.pv,one.pv] forV.pv):Contract prg 27 [(vI n)] forV.pv :=
 Contract.ofL Tryz.func27 (by kernel_rfl) (L.done mixed tabOk (n:=72) (ns:=[1,1,1]) (tr:=[.reg [],.reg [.none,(.pv of.pv),(.pv one.pv),(.pv forV.pv)]]) (cj h1 (cj h2 (cj h3 True.intro))) (by kernel_rfl))
end linkworkref02_Of
namespace fraction_Of
theorem e0(n:Int)(of one:AWhole)(forV:ARat)(h1:Contract prg 69 [(vI n)] of.pv)(h2:Contract prg 70 [] one.pv)(h3:Contract prg 61 [of.pv,one.pv] forV.pv):Contract prg 29 [(vI n)] forV.pv :=
 Contract.ofL Tryz.func29 (by kernel_rfl) (L.done mixed tabOk (n:=72) (ns:=[1,1,1]) (tr:=[.reg [],.reg [.none,(.pv of.pv),(.pv one.pv),(.pv forV.pv)]]) (cj h1 (cj h2 (cj h3 True.intro))) (by kernel_rfl))
end fraction_Of
namespace fraction_Sign
theorem e0(a:ARat)(par par1:AWhole)(sig:Int)(h1:Contract prg 60 [a.pv] (.tup [par.pv,par1.pv]))(h2:Contract prg 72 [par.pv] (vI sig)):Contract prg 31 [a.pv] (vI sig) :=
 Contract.ofL Tryz.func31 (by kernel_rfl) (L.done mixed tabOk (n:=78) (ns:=[1,1]) (tr:=[.reg [],.reg [.none,(.pv (.tup [par.pv,par1.pv]))],.reg [.none,(.pv (vI sig))]]) (cj h1 (cj h2 True.intro)) (by kernel_rfl))
end fraction_Sign
namespace fraction_Sub
theorem e0(a b neg add:ARat)(h1:Contract prg 23 [b.pv] neg.pv)(h2:Contract prg 68 [a.pv,neg.pv] add.pv):Contract prg 34 [a.pv,b.pv] add.pv :=
 Contract.ofL Tryz.func34 (by kernel_rfl) (L.done mixed tabOk (n:=72) (ns:=[1,1]) (tr:=[.reg [],dr 4 1 [.none,.none,(.pv neg.pv),(.pv add.pv)]]) (cj h1 (cj h2 True.intro)) (by kernel_rfl))
end fraction_Sub
namespace fraction_Text
theorem e0(a:ARat)(par par1 one:AWhole)(cmp:Int)(tex:ByteArray)(h1:Contract prg 60 [a.pv] (.tup [par.pv,par1.pv]))(h2:Contract prg 70 [] one.pv)(h3:Contract prg 63 [par1.pv,one.pv] (vI cmp))(h4:cmp=0)(h5:Contract prg 94 [par.pv] (.str tex)):Contract prg 42 [a.pv] (.str tex) :=
 Contract.ofL Tryz.func42 (by kernel_rfl) (L.done mixed tabOk (n:=90) (ns:=[1,1,1,1,1]) (tr:=[.reg [],.reg [.none,(.pv (.tup [par.pv,par1.pv]))],dr 4 0 [.none,(.pv one.pv),(.pv (vI cmp))],.dec true,.reg [.none,(.pv (.str tex))]]) (cj h1 (cj h2 (cj h3 (cj (deq_t h4) (cj h5 True.intro))))) (by kernel_rfl))
theorem e1(a:ARat)(par par1 one:AWhole)(cmp:Int)(tex tex1:ByteArray)(h1:Contract prg 60 [a.pv] (.tup [par.pv,par1.pv]))(h2:Contract prg 70 [] one.pv)(h3:Contract prg 63 [par1.pv,one.pv] (vI cmp))(h4:cmp≠0)(h5:Contract prg 94 [par.pv] (.str tex))(h6:tex.size+(ByteArray.mk #[47]).size<9223372036854775808)(h7:Contract prg 94 [par1.pv] (.str tex1))(h8:(tex++(ByteArray.mk #[47])).size+tex1.size<9223372036854775808):Contract prg 42 [a.pv] (.str ((tex++(ByteArray.mk #[47]))++tex1)) :=
 Contract.ofL Tryz.func42 (by kernel_rfl) (L.done mixed tabOk (n:=93) (ns:=[1,1,1,1,1,1,1,1]) (tr:=[.reg [],.reg [.none,(.pv (.tup [par.pv,par1.pv]))],dr 4 0 [.none,(.pv one.pv),(.pv (vI cmp))],.dec false,dr 6 1 [.none,(.pv (.str tex)),(.pv (.str (tex++(ByteArray.mk #[47])))),.none,(.pv (.str tex1)),(.pv (.str ((tex++(ByteArray.mk #[47]))++tex1)))]]) (cj h1 (cj h2 (cj h3 (cj (deq_f h4) (cj h5 (cj (bs_sadd h6) (cj h7 (cj (bs_sadd h8) True.intro)))))))) (by kernel_rfl))
end fraction_Text
namespace fraction_Div
theorem e0(a b:ARat)(par par1 par2 par3 mul mul1:AWhole)(fro:ARat)(fro1:Option Int)(h1:Contract prg 60 [a.pv] (.tup [par.pv,par1.pv]))(h2:Contract prg 60 [b.pv] (.tup [par2.pv,par3.pv]))(h3:Contract prg 64 [par.pv,par3.pv] mul.pv)(h4:Contract prg 64 [par1.pv,par2.pv] mul1.pv)(h5:Contract prg 96 [mul.pv,mul1.pv] (.tup [fro.pv,(errPV fro1)])):Contract prg 49 [a.pv,b.pv] (.tup [fro.pv,(errPV fro1)]) :=
 Contract.ofL Tryz.func49 (by kernel_rfl) (L.done mixed tabOk (n:=84) (ns:=[1,1,1,1,1]) (tr:=[.reg [],.reg [.none,(.pv (.tup [par.pv,par1.pv]))],.reg [.none,(.pv (.tup [par2.pv,par3.pv]))],dr 9 2 [.none,.none,(.pv mul.pv),.none,.none,(.pv mul1.pv),(.pv (.tup [fro.pv,(errPV fro1)]))]]) (cj h1 (cj h2 (cj h3 (cj h4 (cj h5 True.intro))))) (by kernel_rfl))
end fraction_Div
namespace linkworkref02_Div
theorem e0(a b:ARat)(par par1 par2 par3 mul mul1:AWhole)(fro:ARat)(fro1:Int)(h1:Contract prg 100 [a.pv] (.tup [par.pv,par1.pv]))(h2:Contract prg 100 [b.pv] (.tup [par2.pv,par3.pv]))(h3:Contract prg 102 [par.pv,par3.pv] mul.pv)(h4:Contract prg 102 [par1.pv,par2.pv] mul1.pv)(h5:Contract prg 101 [mul.pv,mul1.pv] (.tup [fro.pv,(vI fro1)])):Contract prg 54 [a.pv,b.pv] (.tup [fro.pv,(vI fro1)]) :=
 Contract.ofL Tryz.func54 (by kernel_rfl) (L.done mixed tabOk (n:=84) (ns:=[1,1,1,1,1]) (tr:=[.reg [],.reg [.none,(.pv (.tup [par.pv,par1.pv]))],.reg [.none,(.pv (.tup [par2.pv,par3.pv]))],dr 9 2 [.none,.none,(.pv mul.pv),.none,.none,(.pv mul1.pv),(.pv (.tup [fro.pv,(vI fro1)]))]]) (cj h1 (cj h2 (cj h3 (cj h4 (cj h5 True.intro))))) (by kernel_rfl))
end linkworkref02_Div
namespace linkworkref02_Neg
theorem e0(a:ARat)(par par1 neg:AWhole)(forV:ARat)(h1:Contract prg 100 [a.pv] (.tup [par.pv,par1.pv]))(h2:Contract prg 103 [par.pv] neg.pv)(h3:Contract prg 65 [neg.pv,par1.pv] forV.pv):Contract prg 55 [a.pv] forV.pv :=
 Contract.ofL Tryz.func55 (by kernel_rfl) (L.done mixed tabOk (n:=78) (ns:=[1,1,1]) (tr:=[.reg [],.reg [.none,(.pv (.tup [par.pv,par1.pv]))],dr 4 1 [.none,(.pv neg.pv),.none,(.pv forV.pv)]]) (cj h1 (cj h2 (cj h3 True.intro))) (by kernel_rfl))
end linkworkref02_Neg
namespace fraction_Parts
@[reducible] noncomputable def fn:Func:=Tryz.f60
theorem e0(a:ARat)(val:Bool)(one:AWhole)(h1:Contract prg 95 [a.pv] (vB val))(h2:val=false)(h3:Contract prg 70 [] one.pv):Contract prg 60 [a.pv] (.tup [(⟨false,[]⟩:AWhole).pv,one.pv]) :=
 Contract.ofL Tryz.func60 (by kernel_rfl) (L.done mixed tabOk (n:=84) (ns:=[1,1,1,1,1,1,1]) (tr:=[.reg [],.reg [.none,(.pv (vB val)),.none,.none,.skip,.skip,.skip,.skip,(.dec true)],.auto,.reg [.none,(.pv one.pv)]]) (cj h1 (cj (bnot_t h2) (cj (bnot_t h2) (cj (bnot_t h2) (cj (bnot_t h2) (cj (bnot_t h2) (cj h3 True.intro))))))) (by kernel_rfl))
theorem e1(a:ARat)(val:Bool)(one:AWhole)(h1:Contract prg 95 [a.pv] (vB val))(h2:val=true)(h3:a.num.length=0)(h4:Contract prg 70 [] one.pv):Contract prg 60 [a.pv] (.tup [(⟨false,[]⟩:AWhole).pv,one.pv]) :=
 Contract.ofL Tryz.func60 (by kernel_rfl) (L.done mixed tabOk (n:=84) (ns:=[1,1,1,1,1,1,1,1,1]) (tr:=[.reg [],.reg [.none,(.pv (vB val)),.none,.none,.none,.none,(iI (a.num.length:Int)),.none,(.dec false)],.dec true,.reg [.none,(.pv one.pv)]]) (cj h1 (cj (bnot_f h2) (cj (bnot_f h2) (cj (bnot_f h2) (cj (o_len wordPV a.num) (cj (bnot_f h2) (cj (bnot_f h2) (cj (deqN_t h3) (cj h4 True.intro))))))))) (by kernel_rfl))
theorem e2_any0(a:ARat):anyL prg tab fn.ntmps (opsAt (focus [0,2,0,0,2,1,2,0] [.code (bodyOf fn)])) (allF (opsAt (focus [0,2,0,0,2,1,2,0] [.code (bodyOf fn)])) []) (downs (opsAt (focus [0,2,0,0,2,1,2,0] [.code (bodyOf fn)])) []) [.none,.none,.none,.none,.none,(.slc (a.num:List UInt32).length 0 ((a.num:List UInt32).map wordPV)),.none,.none] (flS tab fn.ntmps (opsAt (focus [0,2,0,0,2,1,2,0] [.code (bodyOf fn)])) [] ⟨[(1,(.ptr 1 0)),(2,(.ptr 2 0)),(3,(.ptr 3 0))],[(3,(.lit [(eB false),(.pv (.list []))])),(2,(.lit [(eB false),(.pv (.list []))])),(1,(.lit [(eB a.neg),(.pv (wordsPV a.num)),(.pv (wordsPV a.den))]))]⟩)=anyR prg tab fn.ntmps (opsAt (focus [0,2,0,0,2,1,2,0] [.code (bodyOf fn)])) (allF (opsAt (focus [0,2,0,0,2,1,2,0] [.code (bodyOf fn)])) []) (downs (opsAt (focus [0,2,0,0,2,1,2,0] [.code (bodyOf fn)])) []) [.none,.none,.none,.none,.none,(.slc (a.num:List UInt32).length 0 ((a.num:List UInt32).map wordPV)),.none,.none] (flS tab fn.ntmps (opsAt (focus [0,2,0,0,2,1,2,0] [.code (bodyOf fn)])) [] ⟨[(1,(.ptr 1 0)),(2,(.ptr 2 0)),(3,(.ptr 3 0))],[(3,(.lit [(eB false),(.pv (.list []))])),(2,(.lit [(eB false),(.pv (.list []))])),(1,(.lit [(eB a.neg),(.pv (wordsPV a.num)),(.pv (wordsPV a.den))]))]⟩):=by kernel_rfl
theorem e2_any1(a:ARat):anyL prg tab fn.ntmps (opsAt (focus [0,2,0,0,2,1,2,0,2,0] [.code (bodyOf fn)])) (allF (opsAt (focus [0,2,0,0,2,1,2,0,2,0] [.code (bodyOf fn)])) []) (downs (opsAt (focus [0,2,0,0,2,1,2,0,2,0] [.code (bodyOf fn)])) []) [.none,.none,.none,.none,(.slc (a.den:List UInt32).length 0 ((a.den:List UInt32).map wordPV)),.none,.none,.none] (flS tab fn.ntmps (opsAt (focus [0,2,0,0,2,1,2,0,2,0] [.code (bodyOf fn)])) [] ⟨[(1,(.ptr 1 0)),(2,(.ptr 2 0)),(3,(.ptr 3 0))],[(3,(.lit [(eB false),(.pv (.list []))])),(2,(.lit [(eB a.neg),(.pv (wordsPV a.num))])),(1,(.lit [(eB a.neg),(.pv (wordsPV a.num)),(.pv (wordsPV a.den))]))]⟩)=anyR prg tab fn.ntmps (opsAt (focus [0,2,0,0,2,1,2,0,2,0] [.code (bodyOf fn)])) (allF (opsAt (focus [0,2,0,0,2,1,2,0,2,0] [.code (bodyOf fn)])) []) (downs (opsAt (focus [0,2,0,0,2,1,2,0,2,0] [.code (bodyOf fn)])) []) [.none,.none,.none,.none,(.slc (a.den:List UInt32).length 0 ((a.den:List UInt32).map wordPV)),.none,.none,.none] (flS tab fn.ntmps (opsAt (focus [0,2,0,0,2,1,2,0,2,0] [.code (bodyOf fn)])) [] ⟨[(1,(.ptr 1 0)),(2,(.ptr 2 0)),(3,(.ptr 3 0))],[(3,(.lit [(eB false),(.pv (.list []))])),(2,(.lit [(eB a.neg),(.pv (wordsPV a.num))])),(1,(.lit [(eB a.neg),(.pv (wordsPV a.num)),(.pv (wordsPV a.den))]))]⟩):=by kernel_rfl
theorem e2(a:ARat)(val:Bool)(h1:Contract prg 95 [a.pv] (vB val))(h2:val=true)(h3:a.num.length≠0)(h4:(([]:List UInt32)++a.num:List UInt32).length*4≤140737488355328)(h5:(([]:List UInt32)++a.den:List UInt32).length*4≤140737488355328):Contract prg 60 [a.pv] (.tup [(⟨a.neg,a.num⟩:AWhole).pv,(⟨false,a.den⟩:AWhole).pv]) :=
 Contract.ofL Tryz.func60 (by kernel_rfl) (L.done mixed tabOk (n:=93) (ns:=[1,1,1,1,1,1,1,1,6,3,1,6,3,1]) (tr:=[.reg [],.reg [.none,(.pv (vB val)),.none,.none,.none,.none,(iI (a.num.length:Int)),.none,(.dec false)],.dec false,.keep [1,2,3],.any [] [.none,.none,.none,.none,.none,(.slc (a.num:List UInt32).length 0 ((a.num:List UInt32).map wordPV)),.none,.none],.keep [1,2,3],.any [] [.none,.none,.none,.none,(.slc (a.den:List UInt32).length 0 ((a.den:List UInt32).map wordPV)),.none,.none,.none]]) (cj h1 (cj (bnot_f h2) (cj (bnot_f h2) (cj (bnot_f h2) (cj (o_len wordPV a.num) (cj (bnot_f h2) (cj (bnot_f h2) (cj (deqN_f h3) (cj (o_appL sz_word ([]:List UInt32) (a.num:List UInt32) 4 (Eq.refl ([]:List UInt32).length) h4 rfl) (cj (o_frz sz_word (a.num:List UInt32) (Eq.refl (a.num:List UInt32).length)) (cj (e2_any0 a) (cj (o_appL sz_word ([]:List UInt32) (a.den:List UInt32) 4 (Eq.refl ([]:List UInt32).length) h5 rfl) (cj (o_frz sz_word (a.den:List UInt32) (Eq.refl (a.den:List UInt32).length)) (cj (e2_any1 a) True.intro)))))))))))))) (by kernel_rfl))
end fraction_Parts
namespace fraction_form
theorem e0(n d:AWhole)(sig:Int)(h1:Contract prg 72 [n.pv] (vI sig))(h2:sig=0):Contract prg 61 [n.pv,d.pv] ((⟨false,[],[]⟩:ARat).pv) :=
 Contract.ofL Tryz.func61 (by kernel_rfl) (L.done mixed tabOk (n:=84) (ns:=[1,1]) (tr:=[.reg [],.reg [.none,(.pv (vI sig))],.dec true,.reg []]) (cj h1 (cj (deq_t h2) True.intro)) (by kernel_rfl))
theorem e1(n d:AWhole)(sig sig1:Int)(neg neg1 gcd:AWhole)(sig2:Int)(neg2 div div1:AWhole)(div2:Option Int)(div3 div4:AWhole)(div5:Option Int)(h1:Contract prg 72 [n.pv] (vI sig))(h2:sig≠0)(h3:Contract prg 72 [d.pv] (vI sig1))(h4:sig1<0)(h5:Contract prg 62 [n.pv] neg.pv)(h6:Contract prg 62 [d.pv] neg1.pv)(h7:Contract prg 106 [neg.pv,neg1.pv] gcd.pv)(h8:Contract prg 72 [neg.pv] (vI sig2))(h9:sig2<0)(h10:Contract prg 62 [neg.pv] neg2.pv)(h11:Contract prg 107 [neg2.pv,gcd.pv] (.tup [div.pv,div1.pv,(errPV div2)]))(h12:Contract prg 107 [neg1.pv,gcd.pv] (.tup [div3.pv,div4.pv,(errPV div5)])):Contract prg 61 [n.pv,d.pv] ((⟨(decide (sig2<0)),div.mag,div3.mag⟩:ARat).pv) :=
 Contract.ofL Tryz.func61 (by kernel_rfl) (L.done mixed tabOk (n:=141) (ns:=[1,1,1,1,1,1,1,1,1,1,1,1]) (tr:=[.reg [],.reg [.none,(.pv (vI sig))],.dec false,.reg [.none,(.pv (vI sig1))],.dec true,dr 4 2 [.none,(.pv neg.pv),.none,(.pv neg1.pv)],.reg [.none,.none,(.pv gcd.pv)],.reg [.none,(.pv (vI sig2))],.reg [],.dec true,.reg [.none,(.pv neg2.pv)],.reg [.none,.none,(.pv (.tup [div.pv,div1.pv,(errPV div2)]))],.reg [.none,.none,(.pv (.tup [div3.pv,div4.pv,(errPV div5)]))],.reg []]) (cj h1 (cj (deq_f h2) (cj h3 (cj (dlt_t h4) (cj h5 (cj h6 (cj h7 (cj h8 (cj (dlt_t h9) (cj h10 (cj h11 (cj h12 True.intro)))))))))))) (by kernel_rfl))
theorem e2(n d:AWhole)(sig sig1:Int)(neg neg1 gcd:AWhole)(sig2:Int)(div div1:AWhole)(div2:Option Int)(div3 div4:AWhole)(div5:Option Int)(h1:Contract prg 72 [n.pv] (vI sig))(h2:sig≠0)(h3:Contract prg 72 [d.pv] (vI sig1))(h4:sig1<0)(h5:Contract prg 62 [n.pv] neg.pv)(h6:Contract prg 62 [d.pv] neg1.pv)(h7:Contract prg 106 [neg.pv,neg1.pv] gcd.pv)(h8:Contract prg 72 [neg.pv] (vI sig2))(h9:0≤sig2)(h10:Contract prg 107 [neg.pv,gcd.pv] (.tup [div.pv,div1.pv,(errPV div2)]))(h11:Contract prg 107 [neg1.pv,gcd.pv] (.tup [div3.pv,div4.pv,(errPV div5)])):Contract prg 61 [n.pv,d.pv] ((⟨(decide (sig2<0)),div.mag,div3.mag⟩:ARat).pv) :=
 Contract.ofL Tryz.func61 (by kernel_rfl) (L.done mixed tabOk (n:=141) (ns:=[1,1,1,1,1,1,1,1,1,1,1]) (tr:=[.reg [],.reg [.none,(.pv (vI sig))],.dec false,.reg [.none,(.pv (vI sig1))],.dec true,dr 4 2 [.none,(.pv neg.pv),.none,(.pv neg1.pv)],.reg [.none,.none,(.pv gcd.pv)],.reg [.none,(.pv (vI sig2))],.reg [],.dec false,.reg [.none,.none,(.pv (.tup [div.pv,div1.pv,(errPV div2)]))],.reg [.none,.none,(.pv (.tup [div3.pv,div4.pv,(errPV div5)]))],.reg []]) (cj h1 (cj (deq_f h2) (cj h3 (cj (dlt_t h4) (cj h5 (cj h6 (cj h7 (cj h8 (cj (dlt_f h9) (cj h10 (cj h11 True.intro))))))))))) (by kernel_rfl))
theorem e3(n d:AWhole)(sig sig1:Int)(gcd:AWhole)(sig2:Int)(neg div div1:AWhole)(div2:Option Int)(div3 div4:AWhole)(div5:Option Int)(h1:Contract prg 72 [n.pv] (vI sig))(h2:sig≠0)(h3:Contract prg 72 [d.pv] (vI sig1))(h4:0≤sig1)(h5:Contract prg 106 [n.pv,d.pv] gcd.pv)(h6:Contract prg 72 [n.pv] (vI sig2))(h7:sig2<0)(h8:Contract prg 62 [n.pv] neg.pv)(h9:Contract prg 107 [neg.pv,gcd.pv] (.tup [div.pv,div1.pv,(errPV div2)]))(h10:Contract prg 107 [d.pv,gcd.pv] (.tup [div3.pv,div4.pv,(errPV div5)])):Contract prg 61 [n.pv,d.pv] ((⟨(decide (sig2<0)),div.mag,div3.mag⟩:ARat).pv) :=
 Contract.ofL Tryz.func61 (by kernel_rfl) (L.done mixed tabOk (n:=141) (ns:=[1,1,1,1,1,1,1,1,1,1]) (tr:=[.reg [],.reg [.none,(.pv (vI sig))],.dec false,.reg [.none,(.pv (vI sig1))],.dec false,.reg [.none,.none,(.pv gcd.pv)],.reg [.none,(.pv (vI sig2))],.reg [],.dec true,.reg [.none,(.pv neg.pv)],.reg [.none,.none,(.pv (.tup [div.pv,div1.pv,(errPV div2)]))],.reg [.none,.none,(.pv (.tup [div3.pv,div4.pv,(errPV div5)]))],.reg []]) (cj h1 (cj (deq_f h2) (cj h3 (cj (dlt_f h4) (cj h5 (cj h6 (cj (dlt_t h7) (cj h8 (cj h9 (cj h10 True.intro)))))))))) (by kernel_rfl))
theorem e4(n d:AWhole)(sig sig1:Int)(gcd:AWhole)(sig2:Int)(div div1:AWhole)(div2:Option Int)(div3 div4:AWhole)(div5:Option Int)(h1:Contract prg 72 [n.pv] (vI sig))(h2:sig≠0)(h3:Contract prg 72 [d.pv] (vI sig1))(h4:0≤sig1)(h5:Contract prg 106 [n.pv,d.pv] gcd.pv)(h6:Contract prg 72 [n.pv] (vI sig2))(h7:0≤sig2)(h8:Contract prg 107 [n.pv,gcd.pv] (.tup [div.pv,div1.pv,(errPV div2)]))(h9:Contract prg 107 [d.pv,gcd.pv] (.tup [div3.pv,div4.pv,(errPV div5)])):Contract prg 61 [n.pv,d.pv] ((⟨(decide (sig2<0)),div.mag,div3.mag⟩:ARat).pv) :=
 Contract.ofL Tryz.func61 (by kernel_rfl) (L.done mixed tabOk (n:=141) (ns:=[1,1,1,1,1,1,1,1,1]) (tr:=[.reg [],.reg [.none,(.pv (vI sig))],.dec false,.reg [.none,(.pv (vI sig1))],.dec false,.reg [.none,.none,(.pv gcd.pv)],.reg [.none,(.pv (vI sig2))],.reg [],.dec false,.reg [.none,.none,(.pv (.tup [div.pv,div1.pv,(errPV div2)]))],.reg [.none,.none,(.pv (.tup [div3.pv,div4.pv,(errPV div5)]))],.reg []]) (cj h1 (cj (deq_f h2) (cj h3 (cj (dlt_f h4) (cj h5 (cj h6 (cj (dlt_f h7) (cj h8 (cj h9 True.intro))))))))) (by kernel_rfl))
end fraction_form
namespace linkworkref02_form
theorem e0(n d:AWhole)(sig:Int)(h1:Contract prg 113 [n.pv] (vI sig))(h2:sig=0):Contract prg 65 [n.pv,d.pv] ((⟨false,[],[]⟩:ARat).pv) :=
 Contract.ofL Tryz.func65 (by kernel_rfl) (L.done mixed tabOk (n:=84) (ns:=[1,1]) (tr:=[.reg [],.reg [.none,(.pv (vI sig))],.dec true,.reg []]) (cj h1 (cj (deq_t h2) True.intro)) (by kernel_rfl))
theorem e1(n d:AWhole)(sig sig1:Int)(neg neg1 gcd div div1:AWhole)(div2:Int)(div3 div4:AWhole)(div5:Int)(h1:Contract prg 113 [n.pv] (vI sig))(h2:sig≠0)(h3:Contract prg 113 [d.pv] (vI sig1))(h4:sig1<0)(h5:Contract prg 103 [n.pv] neg.pv)(h6:Contract prg 103 [d.pv] neg1.pv)(h7:Contract prg 114 [neg.pv,neg1.pv] gcd.pv)(h8:Contract prg 115 [neg.pv,gcd.pv] (.tup [div.pv,div1.pv,(vI div2)]))(h9:Contract prg 115 [neg1.pv,gcd.pv] (.tup [div3.pv,div4.pv,(vI div5)])):Contract prg 65 [n.pv,d.pv] ((⟨div.neg,div.mag,div3.mag⟩:ARat).pv) :=
 Contract.ofL Tryz.func65 (by kernel_rfl) (L.done mixed tabOk (n:=120) (ns:=[1,1,1,1,1,1,1,1,1]) (tr:=[.reg [],.reg [.none,(.pv (vI sig))],.dec false,.reg [.none,(.pv (vI sig1))],.dec true,dr 4 2 [.none,(.pv neg.pv),.none,(.pv neg1.pv)],.reg [.none,.none,(.pv gcd.pv)],.reg [.none,.none,(.pv (.tup [div.pv,div1.pv,(vI div2)]))],.reg [.none,.none,(.pv (.tup [div3.pv,div4.pv,(vI div5)]))],.reg []]) (cj h1 (cj (deq_f h2) (cj h3 (cj (dlt_t h4) (cj h5 (cj h6 (cj h7 (cj h8 (cj h9 True.intro))))))))) (by kernel_rfl))
theorem e2(n d:AWhole)(sig sig1:Int)(gcd div div1:AWhole)(div2:Int)(div3 div4:AWhole)(div5:Int)(h1:Contract prg 113 [n.pv] (vI sig))(h2:sig≠0)(h3:Contract prg 113 [d.pv] (vI sig1))(h4:0≤sig1)(h5:Contract prg 114 [n.pv,d.pv] gcd.pv)(h6:Contract prg 115 [n.pv,gcd.pv] (.tup [div.pv,div1.pv,(vI div2)]))(h7:Contract prg 115 [d.pv,gcd.pv] (.tup [div3.pv,div4.pv,(vI div5)])):Contract prg 65 [n.pv,d.pv] ((⟨div.neg,div.mag,div3.mag⟩:ARat).pv) :=
 Contract.ofL Tryz.func65 (by kernel_rfl) (L.done mixed tabOk (n:=120) (ns:=[1,1,1,1,1,1,1]) (tr:=[.reg [],.reg [.none,(.pv (vI sig))],.dec false,.reg [.none,(.pv (vI sig1))],.dec false,.reg [.none,.none,(.pv gcd.pv)],.reg [.none,.none,(.pv (.tup [div.pv,div1.pv,(vI div2)]))],.reg [.none,.none,(.pv (.tup [div3.pv,div4.pv,(vI div5)]))],.reg []]) (cj h1 (cj (deq_f h2) (cj h3 (cj (dlt_f h4) (cj h5 (cj h6 (cj h7 True.intro))))))) (by kernel_rfl))
end linkworkref02_form
namespace linkworkref02_one
theorem e0(of:AWhole)(h1:Contract prg 66 [(vI 1)] of.pv):Contract prg 67 [] of.pv :=
 Contract.ofL Tryz.func67 (by kernel_rfl) (L.done mixed tabOk (n:=72) (ns:=[1]) (tr:=[.reg [],.reg [(.pv of.pv)]]) (cj h1 True.intro) (by kernel_rfl))
end linkworkref02_one
namespace fraction_Add
theorem e0(a b:ARat)(par par1 par2 par3 mul mul1 add mul2:AWhole)(forV:ARat)(h1:Contract prg 60 [a.pv] (.tup [par.pv,par1.pv]))(h2:Contract prg 60 [b.pv] (.tup [par2.pv,par3.pv]))(h3:Contract prg 64 [par.pv,par3.pv] mul.pv)(h4:Contract prg 64 [par2.pv,par1.pv] mul1.pv)(h5:Contract prg 117 [mul.pv,mul1.pv] add.pv)(h6:Contract prg 64 [par1.pv,par3.pv] mul2.pv)(h7:Contract prg 61 [add.pv,mul2.pv] forV.pv):Contract prg 68 [a.pv,b.pv] forV.pv :=
 Contract.ofL Tryz.func68 (by kernel_rfl) (L.done mixed tabOk (n:=84) (ns:=[1,1,1,1,1,1,1]) (tr:=[.reg [],.reg [.none,(.pv (.tup [par.pv,par1.pv]))],.reg [.none,(.pv (.tup [par2.pv,par3.pv]))],dr 11 1 [.none,.none,(.pv mul.pv),.none,.none,(.pv mul1.pv),(.pv add.pv),.none,.none,(.pv mul2.pv),(.pv forV.pv)]]) (cj h1 (cj h2 (cj h3 (cj h4 (cj h5 (cj h6 (cj h7 True.intro))))))) (by kernel_rfl))
end fraction_Add
namespace fraction_one
theorem e0(of:AWhole)(h1:Contract prg 69 [(vI 1)] of.pv):Contract prg 70 [] of.pv :=
 Contract.ofL Tryz.func70 (by kernel_rfl) (L.done mixed tabOk (n:=72) (ns:=[1]) (tr:=[.reg [],.reg [(.pv of.pv)]]) (cj h1 True.intro) (by kernel_rfl))
end fraction_one
namespace linkworkref02_Cmp
theorem e0(a b sub:ARat)(sig:Int)(h1:Contract prg 98 [a.pv,b.pv] sub.pv)(h2:Contract prg 93 [sub.pv] (vI sig)):Contract prg 91 [a.pv,b.pv] (vI sig) :=
 Contract.ofL Tryz.func91 (by kernel_rfl) (L.done mixed tabOk (n:=72) (ns:=[1,1]) (tr:=[.reg [],.reg [.none,.none,(.pv sub.pv),(.pv (vI sig))]]) (cj h1 (cj h2 True.intro)) (by kernel_rfl))
end linkworkref02_Cmp
namespace linkworkref02_Valid
theorem e0(a:ARat)(h1:a.num.length=0)(h2:a.den.length=0):Contract prg 92 [a.pv] (vB (!a.neg)) :=
 Contract.ofL Tryz.func92 (by kernel_rfl) (L.done mixed tabOk (n:=84) (ns:=[1,1,1,1,1,1,1,1]) (tr:=[.reg [],.reg [.none,.none,(iI (a.num.length:Int)),.none,.none,.none,.none,(iI (a.den.length:Int)),.none,(.dec true)],.dec true,.reg []]) (cj (o_len wordPV a.num) (cj (deqN_t h1) (cj (deqN_t h1) (cj (deqN_t h1) (cj (o_len wordPV a.den) (cj (deqN_t h1) (cj (deqN_t h1) (cj (deqN_t h2) True.intro)))))))) (by kernel_rfl))
theorem e3(a:ARat)(pla:Bool)(h1:a.num.length=0)(h2:a.den.length≠0)(h3:Contract prg 127 [(wordsPV a.num)] (vB pla))(h4:pla=false):Contract prg 92 [a.pv] (vB false) :=
 Contract.ofL Tryz.func92 (by kernel_rfl) (L.done mixed tabOk (n:=87) (ns:=[1,1,1,1,1,1,1,1,1,1,1,1,1,1,1,1,1,1,1,1,1,1,1]) (tr:=[.reg [],.reg [.none,.none,(iI (a.num.length:Int)),.none,.none,.none,.none,(iI (a.den.length:Int)),.none,(.dec true)],.dec false,.reg [.none,.none,(.pv (vB pla)),.none,.skip,.skip,.skip,(.dec false),.none,.skip,.skip,.skip,.skip,.skip,.skip,.skip,.skip,.skip,.skip]]) (cj (o_len wordPV a.num) (cj (deqN_t h1) (cj (deqN_t h1) (cj (deqN_t h1) (cj (o_len wordPV a.den) (cj (deqN_t h1) (cj (deqN_t h1) (cj (deqN_f h2) (cj h3 (cj h4 (cj h4 (cj h4 (cj h4 (cj (Eq.refl false) (cj (Eq.refl false) (cj (Eq.refl false) (cj (Eq.refl false) (cj (Eq.refl false) (cj (Eq.refl false) (cj (Eq.refl false) (cj (Eq.refl false) (cj (Eq.refl false) (cj (Eq.refl false) True.intro))))))))))))))))))))))) (by kernel_rfl))
theorem e4(a:ARat)(pla pla1:Bool)(gcd one:AWhole)(cmp:Int)(h1:a.num.length≠0)(h2:Contract prg 127 [(wordsPV a.num)] (vB pla))(h3:pla=true)(h4:Contract prg 127 [(wordsPV a.den)] (vB pla1))(h5:pla1=true)(h6:Contract prg 114 [(⟨false,a.num⟩:AWhole).pv,(⟨false,a.den⟩:AWhole).pv] gcd.pv)(h7:Contract prg 67 [] one.pv)(h8:Contract prg 128 [gcd.pv,one.pv] (vI cmp)):Contract prg 92 [a.pv] (vB (cmp==0)) :=
 Contract.ofL Tryz.func92 (by kernel_rfl) (L.done mixed tabOk (n:=87) (ns:=[1,1,1,1,1,1,1,1,1,1,1,1,1,1,1,1,1,1,1,1,1,1,1,1,1,1]) (tr:=[.reg [],.reg [.none,.none,(iI (a.num.length:Int)),.none,.none,.skip,.skip,.skip,.skip,(.dec false)],.auto,.reg [.none,.none,(.pv (vB pla)),.none,.none,.none,(.pv (vB pla1)),(.dec true),.none,.none,.none,.none,.none,.none,.none,(.pv gcd.pv),(.pv one.pv),(.pv (vI cmp)),.none,(.dec true)]]) (cj (o_len wordPV a.num) (cj (deqN_f h1) (cj (deqN_f h1) (cj (deqN_f h1) (cj (deqN_f h1) (cj (deqN_f h1) (cj h2 (cj h3 (cj h3 (cj h3 (cj h4 (cj h3 (cj h5 (cj h5 (cj h5 (cj h5 (cj h5 (cj h5 (cj h5 (cj h6 (cj h5 (cj h7 (cj h5 (cj h8 (cj h5 (cj h5 True.intro)))))))))))))))))))))))))) (by kernel_rfl))
theorem e5(a:ARat)(pla pla1:Bool)(h1:a.num.length≠0)(h2:Contract prg 127 [(wordsPV a.num)] (vB pla))(h3:pla=true)(h4:Contract prg 127 [(wordsPV a.den)] (vB pla1))(h5:pla1=false):Contract prg 92 [a.pv] (vB false) :=
 Contract.ofL Tryz.func92 (by kernel_rfl) (L.done mixed tabOk (n:=87) (ns:=[1,1,1,1,1,1,1,1,1,1,1,1,1,1,1,1,1,1,1,1,1,1,1]) (tr:=[.reg [],.reg [.none,.none,(iI (a.num.length:Int)),.none,.none,.skip,.skip,.skip,.skip,(.dec false)],.auto,.reg [.none,.none,(.pv (vB pla)),.none,.none,.none,(.pv (vB pla1)),(.dec true),.none,.skip,.skip,.skip,.skip,.skip,.skip,.skip,.skip,.skip,.skip,(.dec false)]]) (cj (o_len wordPV a.num) (cj (deqN_f h1) (cj (deqN_f h1) (cj (deqN_f h1) (cj (deqN_f h1) (cj (deqN_f h1) (cj h2 (cj h3 (cj h3 (cj h3 (cj h4 (cj h3 (cj h5 (cj h5 (cj h5 (cj h5 (cj h5 (cj h5 (cj h5 (cj h5 (cj h5 (cj h5 (cj h5 True.intro))))))))))))))))))))))) (by kernel_rfl))
theorem e6(a:ARat)(pla:Bool)(h1:a.num.length≠0)(h2:Contract prg 127 [(wordsPV a.num)] (vB pla))(h3:pla=false):Contract prg 92 [a.pv] (vB false) :=
 Contract.ofL Tryz.func92 (by kernel_rfl) (L.done mixed tabOk (n:=87) (ns:=[1,1,1,1,1,1,1,1,1,1,1,1,1,1,1,1,1,1,1,1,1]) (tr:=[.reg [],.reg [.none,.none,(iI (a.num.length:Int)),.none,.none,.skip,.skip,.skip,.skip,(.dec false)],.auto,.reg [.none,.none,(.pv (vB pla)),.none,.skip,.skip,.skip,(.dec false),.none,.skip,.skip,.skip,.skip,.skip,.skip,.skip,.skip,.skip,.skip]]) (cj (o_len wordPV a.num) (cj (deqN_f h1) (cj (deqN_f h1) (cj (deqN_f h1) (cj (deqN_f h1) (cj (deqN_f h1) (cj h2 (cj h3 (cj h3 (cj h3 (cj h3 (cj (Eq.refl false) (cj (Eq.refl false) (cj (Eq.refl false) (cj (Eq.refl false) (cj (Eq.refl false) (cj (Eq.refl false) (cj (Eq.refl false) (cj (Eq.refl false) (cj (Eq.refl false) (cj (Eq.refl false) True.intro))))))))))))))))))))) (by kernel_rfl))
end linkworkref02_Valid
namespace linkworkref02_Sign
theorem e0(a:ARat)(par par1:AWhole)(sig:Int)(h1:Contract prg 100 [a.pv] (.tup [par.pv,par1.pv]))(h2:Contract prg 113 [par.pv] (vI sig)):Contract prg 93 [a.pv] (vI sig) :=
 Contract.ofL Tryz.func93 (by kernel_rfl) (L.done mixed tabOk (n:=78) (ns:=[1,1]) (tr:=[.reg [],.reg [.none,(.pv (.tup [par.pv,par1.pv]))],.reg [.none,(.pv (vI sig))]]) (cj h1 (cj h2 True.intro)) (by kernel_rfl))
end linkworkref02_Sign
namespace fraction_Valid
theorem e0(a:ARat)(h1:a.num.length=0)(h2:a.den.length=0):Contract prg 95 [a.pv] (vB (!a.neg)) :=
 Contract.ofL Tryz.func95 (by kernel_rfl) (L.done mixed tabOk (n:=84) (ns:=[1,1,1,1,1,1,1,1]) (tr:=[.reg [],.reg [.none,.none,(iI (a.num.length:Int)),.none,.none,.none,.none,(iI (a.den.length:Int)),.none,(.dec true)],.dec true,.reg []]) (cj (o_len wordPV a.num) (cj (deqN_t h1) (cj (deqN_t h1) (cj (deqN_t h1) (cj (o_len wordPV a.den) (cj (deqN_t h1) (cj (deqN_t h1) (cj (deqN_t h2) True.intro)))))))) (by kernel_rfl))
theorem e1(a:ARat)(h1:a.num.length=0)(h2:a.den.length≠0):Contract prg 95 [a.pv] (vB false) :=
 Contract.ofL Tryz.func95 (by kernel_rfl) (L.done mixed tabOk (n:=105) (ns:=[1,1,1,1,1,1,1,1,1,1,1,1,1,1,1,1,1,1,1,1]) (tr:=[.reg [],.reg [.none,.none,(iI (a.num.length:Int)),.none,.none,.none,.none,(iI (a.den.length:Int)),.none,(.dec true)],.dec false,dr 9 1 [],.reg [.none,.none,(iI (a.num.length:Int)),.none,.none,.skip,.skip,.skip,.skip,(.dec true),.none,.skip,.skip,.skip,.none,.none,.skip,.skip,.skip],.auto,.reg []]) (cj (o_len wordPV a.num) (cj (deqN_t h1) (cj (deqN_t h1) (cj (deqN_t h1) (cj (o_len wordPV a.den) (cj (deqN_t h1) (cj (deqN_t h1) (cj (deqN_f h2) (cj (o_len wordPV a.num) (cj (deqN_t h1) (cj (deqN_t h1) (cj (deqN_t h1) (cj (deqN_t h1) (cj (deqN_t h1) (cj (Eq.refl true) (cj (Eq.refl true) (cj (Eq.refl true) (cj (Eq.refl true) (cj (Eq.refl true) (cj (Eq.refl true) True.intro)))))))))))))))))))) (by kernel_rfl))
theorem e2(a:ARat)(h1:a.num.length≠0)(h2:a.den.length=0):Contract prg 95 [a.pv] (vB false) :=
 Contract.ofL Tryz.func95 (by kernel_rfl) (L.done mixed tabOk (n:=105) (ns:=[1,1,1,1,1,1,1,1,1,1,1,1,1,1,1,1,1,1,1,1]) (tr:=[.reg [],.reg [.none,.none,(iI (a.num.length:Int)),.none,.none,.skip,.skip,.skip,.skip,(.dec false)],.auto,dr 9 1 [],.reg [.none,.none,(iI (a.num.length:Int)),.none,.none,.none,.none,(iI (a.den.length:Int)),.none,(.dec false),.none,.skip,.skip,.skip,(.dec true),.none,.skip,.skip,.skip],.auto,.reg []]) (cj (o_len wordPV a.num) (cj (deqN_f h1) (cj (deqN_f h1) (cj (deqN_f h1) (cj (deqN_f h1) (cj (deqN_f h1) (cj (o_len wordPV a.num) (cj (deqN_f h1) (cj (deqN_f h1) (cj (deqN_f h1) (cj (o_len wordPV a.den) (cj (deqN_f h1) (cj (deqN_f h1) (cj (deqN_t h2) (cj (deqN_t h2) (cj (deqN_t h2) (cj (deqN_t h2) (cj (Eq.refl true) (cj (Eq.refl true) (cj (Eq.refl true) True.intro)))))))))))))))))))) (by kernel_rfl))
theorem e3(a:ARat)(val:Bool)(h1:a.num.length≠0)(h2:a.den.length≠0)(h3:Contract prg 133 [(⟨false,a.num⟩:AWhole).pv] (vB val))(h4:val=false):Contract prg 95 [a.pv] (vB false) :=
 Contract.ofL Tryz.func95 (by kernel_rfl) (L.done mixed tabOk (n:=105) (ns:=[1,1,1,1,1,1,1,1,1,1,1,1,1,1,1,1,1,1,1,1,1,1]) (tr:=[.reg [],.reg [.none,.none,(iI (a.num.length:Int)),.none,.none,.skip,.skip,.skip,.skip,(.dec false)],.auto,dr 9 1 [],.reg [.none,.none,(iI (a.num.length:Int)),.none,.none,.none,.none,(iI (a.den.length:Int)),.none,(.dec false),.none,.none,(.pv (vB val)),.none,(.dec false),.none,.skip,.skip,.skip,(.dec true)],.auto,.reg []]) (cj (o_len wordPV a.num) (cj (deqN_f h1) (cj (deqN_f h1) (cj (deqN_f h1) (cj (deqN_f h1) (cj (deqN_f h1) (cj (o_len wordPV a.num) (cj (deqN_f h1) (cj (deqN_f h1) (cj (deqN_f h1) (cj (o_len wordPV a.den) (cj (deqN_f h1) (cj (deqN_f h1) (cj (deqN_f h2) (cj (deqN_f h2) (cj h3 (cj (deqN_f h2) (cj (deqN_f h2) (cj (bnot_t h4) (cj (bnot_t h4) (cj (bnot_t h4) (cj (bnot_t h4) True.intro)))))))))))))))))))))) (by kernel_rfl))
theorem e4(a:ARat)(val val1:Bool)(h1:a.num.length≠0)(h2:a.den.length≠0)(h3:Contract prg 133 [(⟨false,a.num⟩:AWhole).pv] (vB val))(h4:val=true)(h5:Contract prg 133 [(⟨false,a.den⟩:AWhole).pv] (vB val1))(h6:val1=false):Contract prg 95 [a.pv] (vB false) :=
 Contract.ofL Tryz.func95 (by kernel_rfl) (L.done mixed tabOk (n:=105) (ns:=[1,1,1,1,1,1,1,1,1,1,1,1,1,1,1,1,1,1,1,1,1,1,1,1]) (tr:=[.reg [],.reg [.none,.none,(iI (a.num.length:Int)),.none,.none,.skip,.skip,.skip,.skip,(.dec false)],.auto,dr 9 1 [],.reg [.none,.none,(iI (a.num.length:Int)),.none,.none,.none,.none,(iI (a.den.length:Int)),.none,(.dec false),.none,.none,(.pv (vB val)),.none,(.dec false),.none,.none,(.pv (vB val1)),.none,(.dec false)],.dec true,.reg []]) (cj (o_len wordPV a.num) (cj (deqN_f h1) (cj (deqN_f h1) (cj (deqN_f h1) (cj (deqN_f h1) (cj (deqN_f h1) (cj (o_len wordPV a.num) (cj (deqN_f h1) (cj (deqN_f h1) (cj (deqN_f h1) (cj (o_len wordPV a.den) (cj (deqN_f h1) (cj (deqN_f h1) (cj (deqN_f h2) (cj (deqN_f h2) (cj h3 (cj (deqN_f h2) (cj (deqN_f h2) (cj (bnot_f h4) (cj (bnot_f h4) (cj h5 (cj (bnot_f h4) (cj (bnot_f h4) (cj (bnot_t h6) True.intro)))))))))))))))))))))))) (by kernel_rfl))
theorem e5(a:ARat)(val val1:Bool)(gcd one:AWhole)(cmp:Int)(h1:a.num.length≠0)(h2:a.den.length≠0)(h3:Contract prg 133 [(⟨false,a.num⟩:AWhole).pv] (vB val))(h4:val=true)(h5:Contract prg 133 [(⟨false,a.den⟩:AWhole).pv] (vB val1))(h6:val1=true)(h7:Contract prg 106 [(⟨false,a.num⟩:AWhole).pv,(⟨false,a.den⟩:AWhole).pv] gcd.pv)(h8:Contract prg 70 [] one.pv)(h9:Contract prg 63 [gcd.pv,one.pv] (vI cmp)):Contract prg 95 [a.pv] (vB (cmp==0)) :=
 Contract.ofL Tryz.func95 (by kernel_rfl) (L.done mixed tabOk (n:=108) (ns:=[1,1,1,1,1,1,1,1,1,1,1,1,1,1,1,1,1,1,1,1,1,1,1,1,1,1,1]) (tr:=[.reg [],.reg [.none,.none,(iI (a.num.length:Int)),.none,.none,.skip,.skip,.skip,.skip,(.dec false)],.auto,dr 9 1 [],.reg [.none,.none,(iI (a.num.length:Int)),.none,.none,.none,.none,(iI (a.den.length:Int)),.none,(.dec false),.none,.none,(.pv (vB val)),.none,(.dec false),.none,.none,(.pv (vB val1)),.none,(.dec false)],.dec false,.reg [.none,.none,(.pv gcd.pv),(.pv one.pv),(.pv (vI cmp))]]) (cj (o_len wordPV a.num) (cj (deqN_f h1) (cj (deqN_f h1) (cj (deqN_f h1) (cj (deqN_f h1) (cj (deqN_f h1) (cj (o_len wordPV a.num) (cj (deqN_f h1) (cj (deqN_f h1) (cj (deqN_f h1) (cj (o_len wordPV a.den) (cj (deqN_f h1) (cj (deqN_f h1) (cj (deqN_f h2) (cj (deqN_f h2) (cj h3 (cj (deqN_f h2) (cj (deqN_f h2) (cj (bnot_f h4) (cj (bnot_f h4) (cj h5 (cj (bnot_f h4) (cj (bnot_f h4) (cj (bnot_f h6) (cj h7 (cj h8 (cj h9 True.intro))))))))))))))))))))))))))) (by kernel_rfl))
end fraction_Valid
namespace fraction_From
theorem e1(n d:AWhole)(sig:Int)(forV:ARat)(h1:Contract prg 72 [d.pv] (vI sig))(h2:sig≠0)(h3:Contract prg 61 [n.pv,d.pv] forV.pv):Contract prg 96 [n.pv,d.pv] (.tup [forV.pv,.nilI]) :=
 Contract.ofL Tryz.func96 (by kernel_rfl) (L.done mixed tabOk (n:=87) (ns:=[1,1,1]) (tr:=[.reg [],.reg [.none,(.pv (vI sig))],.dec false,.reg [.none,.none,(.pv forV.pv)]]) (cj h1 (cj (deq_f h2) (cj h3 True.intro))) (by kernel_rfl))
end fraction_From
namespace linkworkref02_Mul
theorem e0(a b:ARat)(par par1 par2 par3 mul mul1:AWhole)(forV:ARat)(h1:Contract prg 100 [a.pv] (.tup [par.pv,par1.pv]))(h2:Contract prg 100 [b.pv] (.tup [par2.pv,par3.pv]))(h3:Contract prg 102 [par.pv,par2.pv] mul.pv)(h4:Contract prg 102 [par1.pv,par3.pv] mul1.pv)(h5:Contract prg 65 [mul.pv,mul1.pv] forV.pv):Contract prg 97 [a.pv,b.pv] forV.pv :=
 Contract.ofL Tryz.func97 (by kernel_rfl) (L.done mixed tabOk (n:=84) (ns:=[1,1,1,1,1]) (tr:=[.reg [],.reg [.none,(.pv (.tup [par.pv,par1.pv]))],.reg [.none,(.pv (.tup [par2.pv,par3.pv]))],dr 7 1 [.none,.none,(.pv mul.pv),.none,.none,(.pv mul1.pv),(.pv forV.pv)]]) (cj h1 (cj h2 (cj h3 (cj h4 (cj h5 True.intro))))) (by kernel_rfl))
end linkworkref02_Mul
namespace linkworkref02_Sub
theorem e0(a b neg add:ARat)(h1:Contract prg 55 [b.pv] neg.pv)(h2:Contract prg 134 [a.pv,neg.pv] add.pv):Contract prg 98 [a.pv,b.pv] add.pv :=
 Contract.ofL Tryz.func98 (by kernel_rfl) (L.done mixed tabOk (n:=72) (ns:=[1,1]) (tr:=[.reg [],dr 4 1 [.none,.none,(.pv neg.pv),(.pv add.pv)]]) (cj h1 (cj h2 True.intro)) (by kernel_rfl))
end linkworkref02_Sub
namespace linkworkref02_Parts
theorem e0(a:ARat)(val:Bool)(one:AWhole)(h1:Contract prg 92 [a.pv] (vB val))(h2:val=false)(h3:Contract prg 67 [] one.pv):Contract prg 100 [a.pv] (.tup [(⟨false,[]⟩:AWhole).pv,one.pv]) :=
 Contract.ofL Tryz.func100 (by kernel_rfl) (L.done mixed tabOk (n:=84) (ns:=[1,1,1,1,1,1,1]) (tr:=[.reg [],.reg [.none,(.pv (vB val)),.none,.none,.skip,.skip,.skip,.skip,(.dec true)],.auto,.reg [.none,(.pv one.pv)]]) (cj h1 (cj (bnot_t h2) (cj (bnot_t h2) (cj (bnot_t h2) (cj (bnot_t h2) (cj (bnot_t h2) (cj h3 True.intro))))))) (by kernel_rfl))
theorem e1(a:ARat)(val:Bool)(one:AWhole)(h1:Contract prg 92 [a.pv] (vB val))(h2:val=true)(h3:a.num.length=0)(h4:Contract prg 67 [] one.pv):Contract prg 100 [a.pv] (.tup [(⟨false,[]⟩:AWhole).pv,one.pv]) :=
 Contract.ofL Tryz.func100 (by kernel_rfl) (L.done mixed tabOk (n:=84) (ns:=[1,1,1,1,1,1,1,1,1]) (tr:=[.reg [],.reg [.none,(.pv (vB val)),.none,.none,.none,.none,(iI (a.num.length:Int)),.none,(.dec false)],.dec true,.reg [.none,(.pv one.pv)]]) (cj h1 (cj (bnot_f h2) (cj (bnot_f h2) (cj (bnot_f h2) (cj (o_len wordPV a.num) (cj (bnot_f h2) (cj (bnot_f h2) (cj (deqN_t h3) (cj h4 True.intro))))))))) (by kernel_rfl))
theorem e2(a:ARat)(val:Bool)(h1:Contract prg 92 [a.pv] (vB val))(h2:val=true)(h3:a.num.length≠0):Contract prg 100 [a.pv] (.tup [(⟨a.neg,a.num⟩:AWhole).pv,(⟨false,a.den⟩:AWhole).pv]) :=
 Contract.ofL Tryz.func100 (by kernel_rfl) (L.done mixed tabOk (n:=87) (ns:=[1,1,1,1,1,1,1,1]) (tr:=[.reg [],.reg [.none,(.pv (vB val)),.none,.none,.none,.none,(iI (a.num.length:Int)),.none,(.dec false)],.dec false,dr 9 1 []]) (cj h1 (cj (bnot_f h2) (cj (bnot_f h2) (cj (bnot_f h2) (cj (o_len wordPV a.num) (cj (bnot_f h2) (cj (bnot_f h2) (cj (deqN_f h3) True.intro)))))))) (by kernel_rfl))
end linkworkref02_Parts
namespace linkworkref02_From
theorem e1(n d:AWhole)(sig:Int)(forV:ARat)(h1:Contract prg 113 [d.pv] (vI sig))(h2:sig≠0)(h3:Contract prg 65 [n.pv,d.pv] forV.pv):Contract prg 101 [n.pv,d.pv] (.tup [forV.pv,(vI 0)]) :=
 Contract.ofL Tryz.func101 (by kernel_rfl) (L.done mixed tabOk (n:=87) (ns:=[1,1,1]) (tr:=[.reg [],.reg [.none,(.pv (vI sig))],.dec false,.reg [.none,.none,(.pv forV.pv)]]) (cj h1 (cj (deq_f h2) (cj h3 True.intro))) (by kernel_rfl))
end linkworkref02_From
namespace linkworkref02_plain
theorem e0(m:List UInt32)(k:Nat)(v:UInt32)(h1:0<m.length)(h2:InI64 ((m.length:Int)-1))(h3:((m.length:Int)-1)=(k:Int))(h4:m[k]? = some v):Contract prg 127 [(wordsPV m)] (vB ((v.toNat:Int) != 0)) :=
 Contract.ofL Tryz.func127 (by kernel_rfl) (L.done mixed tabOk (n:=72) (ns:=[1,1,1,1,1,1,1,1,3,1,1,1]) (tr:=[.reg [],.reg [.none,(iI (m.length:Int)),.none,.none,.none,.none,(iI (m.length:Int)),(iI ((m.length:Int)-1)),(.row k (wordPV v)),.none,.none,(.dec true)]]) (cj (o_len wordPV m) (cj (dltN_t h1) (cj (dltN_t h1) (cj (dltN_t h1) (cj (o_len wordPV m) (cj (dltN_t h1) (cj (bs_sub h2) (cj (dltN_t h1) (cj (o_at wordPV h3 h4) (cj (dltN_t h1) (cj (dltN_t h1) (cj (dltN_t h1) True.intro)))))))))))) (by kernel_rfl))
theorem e1(m:List UInt32)(h1:m.length≤0):Contract prg 127 [(wordsPV m)] (vB false) :=
 Contract.ofL Tryz.func127 (by kernel_rfl) (L.done mixed tabOk (n:=72) (ns:=[1,1,1,1,1,1,1,1,1]) (tr:=[.reg [],.reg [.none,(iI (m.length:Int)),.none,.none,.skip,.skip,.skip,.skip,.skip,.skip,.skip,(.dec false)]]) (cj (o_len wordPV m) (cj (dltN_f h1) (cj (dltN_f h1) (cj (dltN_f h1) (cj (dltN_f h1) (cj (dltN_f h1) (cj (dltN_f h1) (cj (dltN_f h1) (cj (dltN_f h1) True.intro))))))))) (by kernel_rfl))
end linkworkref02_plain
namespace linkworkref02_Add
theorem e0(a b:ARat)(par par1 par2 par3 mul mul1 add mul2:AWhole)(forV:ARat)(h1:Contract prg 100 [a.pv] (.tup [par.pv,par1.pv]))(h2:Contract prg 100 [b.pv] (.tup [par2.pv,par3.pv]))(h3:Contract prg 102 [par.pv,par3.pv] mul.pv)(h4:Contract prg 102 [par2.pv,par1.pv] mul1.pv)(h5:Contract prg 157 [mul.pv,mul1.pv] add.pv)(h6:Contract prg 102 [par1.pv,par3.pv] mul2.pv)(h7:Contract prg 65 [add.pv,mul2.pv] forV.pv):Contract prg 134 [a.pv,b.pv] forV.pv :=
 Contract.ofL Tryz.func134 (by kernel_rfl) (L.done mixed tabOk (n:=84) (ns:=[1,1,1,1,1,1,1]) (tr:=[.reg [],.reg [.none,(.pv (.tup [par.pv,par1.pv]))],.reg [.none,(.pv (.tup [par2.pv,par3.pv]))],dr 11 1 [.none,.none,(.pv mul.pv),.none,.none,(.pv mul1.pv),(.pv add.pv),.none,.none,(.pv mul2.pv),(.pv forV.pv)]]) (cj h1 (cj h2 (cj h3 (cj h4 (cj h5 (cj h6 (cj h7 True.intro))))))) (by kernel_rfl))
end linkworkref02_Add
end Go.Proofs.YtboilcfohmmpbaaGreatDoor.Sym.Path
namespace Go.Proofs.YtboilcfohmmpbaaGreatDoor.Sym
open Go Path CInt
set_option linter.unusedVariables false
theorem valid_e0{a:ARat}(h1:a.num.length=0)(h2:a.den.length=0):a.valid = !a.neg:=by
 unfold ARat.valid;rw[isEmpty_len,isEmpty_len,decide_eq_true h1,decide_eq_true h2];rfl
theorem valid_e1{a:ARat}(h1:a.num.length=0)(h2:a.den.length≠0):a.valid=false:=by
 unfold ARat.valid;rw[isEmpty_len,isEmpty_len,decide_eq_true h1,decide_eq_false h2];rfl
theorem valid_e2{a:ARat}(h1:a.num.length≠0)(h2:a.den.length=0):a.valid=false:=by
 unfold ARat.valid;rw[isEmpty_len,isEmpty_len,decide_eq_false h1,decide_eq_true h2];rfl
theorem valid_e3{a:ARat}(h1:a.num.length≠0)(h2:a.den.length≠0):a.valid=(cn a.num&&(cn a.den&&Nat.beq (Nat.gcd (nat a.num) (nat a.den)) 1)):=by
 unfold ARat.valid;rw[isEmpty_len,isEmpty_len,decide_eq_false h1,decide_eq_false h2];rfl
theorem word_valid{m:Words}(h:m.length≠0):(⟨false,m⟩:AWhole).valid=cn m:=by
 unfold AWhole.valid
 rw[isEmpty_len,decide_eq_false h];rfl
theorem word_val{m:Words}(h:m.length≠0)(hc:cn m=true):(⟨false,m⟩:AWhole).val=(nat m:Int):=by
 unfold AWhole.val
 rw[word_valid h,hc];rfl
theorem cmp_one(g:Nat):(cmpI (g:Int) 1==0)=Nat.beq g 1:=by
 by_cases h:g=1
 ·subst h;rfl
 ·rw[beq_fal.2 h]
  unfold cmpI
  split
  ·rfl
  ·rw[if_neg (by omega)];rfl
theorem parts_of{a:ARat}(hv:a.valid=true)(h0:a.num.length≠0):Sym.whole a.val.num=⟨a.neg,a.num⟩∧Sym.whole (a.val.den:Int)=⟨false,a.den⟩:=by
 have h0':a.num≠[]:=by intro e;rw[e] at h0;exact h0 rfl
 obtain⟨g1,g2,g3,g4⟩:=valid_parts hv h0'
 obtain⟨e1,e2⟩:=val_parts hv h0'
 have hp:=cn_pos g2 h0'
 rw[e1,e2]
 refine⟨?_,?_⟩
 ·unfold Sym.whole
  cases hn:a.neg
  ·simp only[cond_false,Int.natAbs_natCast,words_nat g2,AWhole.mk.injEq,and_true,decide_eq_false_iff_not];omega
  ·simp only[cond_true,Int.natAbs_neg,Int.natAbs_natCast,words_nat g2,AWhole.mk.injEq,and_true,decide_eq_true_eq];omega
 ·unfold Sym.whole
  simp only[Int.natAbs_natCast,words_nat g3,AWhole.mk.injEq,and_true,decide_eq_false_iff_not];omega
theorem gcd_wl{a b:Int}{k:Nat}(ha:wl a≤k)(hb:wl b≤k):wl ((Nat.gcd a.natAbs b.natAbs:Nat):Int)≤k:=by
 by_cases h:b=0
 ·subst h
  rw[Int.natAbs_zero,Nat.gcd_zero_right]
  show(words _).length≤k
  rw[Int.natAbs_natCast];exact ha
 ·exact Nat.le_trans (wl_le_mono (by rw[Int.natAbs_natCast];exact Nat.le_of_dvd (by omega) (Nat.gcd_dvd_right _ _))) hb
theorem formed{n d:Int}(hn:n≠0)(hd:0<d)(g:Nat)(hg:g=Nat.gcd n.natAbs d.natAbs):mkR (Rat.divInt n d)=⟨decide (n/(g:Int)<0),(Sym.whole (n/(g:Int))).mag,(Sym.whole (d/(g:Int))).mag⟩:=by
 obtain⟨e1,e2⟩:=divInt_parts (n:=n) hd g hg
 have hne:Rat.divInt n d≠0:=by
  intro e
  rw[e] at e1
  have e1:(0:Int)=n/(g:Int):=e1
  have h1:(g:Int)∣n:=by rw[hg];exact Int.ofNat_dvd_left.2 (Nat.gcd_dvd_left _ _)
  have:=Int.ediv_mul_cancel h1
  rw[←e1] at this
  omega
 rw[mkR_ne hne,e1]
 unfold Sym.whole
 simp only[ARat.mk.injEq,true_and]
 rw[←e2,Int.natAbs_natCast]
theorem formed_neg{n:Int}(hn:n≠0)(g:Nat)(hg:g∣n.natAbs):decide (n/(g:Int)<0)=decide (n<0)∧(n/(g:Int)).natAbs=((n.natAbs:Int)/(g:Int)).natAbs:=by
 have h1:(g:Int)∣n:=Int.ofNat_dvd_left.2 hg
 have h2:=Int.ediv_mul_cancel h1
 have hg0:0<g:=Nat.pos_of_dvd_of_pos hg (by omega)
 refine⟨?_,?_⟩
 ·congr 1
  refine propext ⟨fun h => ?_,fun h => ?_⟩
  ·have:=Int.mul_neg_of_neg_of_pos h (show (0:Int)<g by omega)
   omega
  ·exact Int.ediv_neg_of_neg_of_pos h (by omega)
 ·rw[Int.natAbs_ediv_of_dvd h1,Int.natAbs_natCast,←Int.natCast_ediv,Int.natAbs_natCast]
namespace CFr
theorem one:Contract prg 70 [] (Sym.whole 1).pv:=fraction_one.e0 _ (CInt.Of 1 (by unfold InI64;omega))
theorem Valid(a:ARat)(h:FitR a):Contract prg 95 [a.pv] (vB a.valid):=by
 obtain⟨l1,l2⟩:=h
 by_cases h1:a.num.length=0
 ·by_cases h2:a.den.length=0
  ·rw[valid_e0 h1 h2];exact fraction_Valid.e0 a h1 h2
  ·rw[valid_e1 h1 h2];exact fraction_Valid.e1 a h1 h2
 ·by_cases h2:a.den.length=0
  ·rw[valid_e2 h1 h2];exact fraction_Valid.e2 a h1 h2
  ·rw[valid_e3 h1 h2]
   have v1:=CInt.Valid ⟨false,a.num⟩ (show a.num.length≤_ by omega)
   have v2:=CInt.Valid ⟨false,a.den⟩ (show a.den.length≤_ by omega)
   rw[word_valid h1] at v1
   rw[word_valid h2] at v2
   cases hc1:cn a.num with
   |false=>rw[Bool.false_and];exact fraction_Valid.e3 a _ h1 h2 v1 hc1
   |true =>
    rw[Bool.true_and]
    cases hc2:cn a.den with
    |false=>rw[Bool.false_and];exact fraction_Valid.e4 a _ _ h1 h2 v1 hc1 v2 hc2
    |true =>
     have hg:=CInt.Gcd ⟨false,a.num⟩ ⟨false,a.den⟩ (show a.num.length≤_ by omega) (show a.den.length≤_ by omega)
     rw[word_val h1 hc1,word_val h2 hc2,Int.natAbs_natCast,Int.natAbs_natCast] at hg
     have gl:=gcd_wl (a:=(nat a.num:Int)) (b:=(nat a.den:Int)) (k:=274877906944) (by show(words _).length≤_;rw[Int.natAbs_natCast,words_nat hc1];exact l1) (by show(words _).length≤_;rw[Int.natAbs_natCast,words_nat hc2];exact l2)
     rw[Int.natAbs_natCast,Int.natAbs_natCast] at gl
     have hc:=CInt.Cmp (Sym.whole (Nat.gcd (nat a.num) (nat a.den):Nat)) (Sym.whole 1) (show wl _≤_ by omega) (show wl 1≤_ by decide)
     rw[whole_val,whole_val] at hc
     rw[Bool.true_and,←cmp_one]
     exact fraction_Valid.e5 a _ _ _ _ _ h1 h2 v1 hc1 v2 hc2 hg one hc
theorem Parts(a:ARat)(h:FitR a):Contract prg 60 [a.pv] (.tup [(Sym.whole a.val.num).pv,(Sym.whole (a.val.den:Int)).pv]):=by
 have hv:=Valid a h
 cases hc:a.valid with
 |false=>rw[val_inv hc];exact fraction_Parts.e0 a _ _ hv hc one
 |true =>
  by_cases h0:a.num.length=0
  ·rw[val_nil (List.eq_nil_of_length_eq_zero h0)];exact fraction_Parts.e1 a _ _ hv hc h0 one
  ·obtain⟨e1,e2⟩:=parts_of hc h0
   rw[e1,e2]
   exact fraction_Parts.e2 a _ hv hc h0 (by have:=h.1;simp;omega) (by have:=h.2;simp;omega)
theorem form(n d:AWhole)(hn:n.mag.length≤1099511627776)(hd:d.mag.length≤1099511627776)(h0:d.val≠0):Contract prg 61 [n.pv,d.pv] (mkR (Rat.divInt n.val d.val)).pv:=by
 have sn:=CInt.Sign n hn
 have sd:=CInt.Sign d hd
 have wn:=val_natAbs_le n
 have wd':=val_natAbs_le d
 by_cases hz:n.val=0
 ·rw[hz,Rat.zero_divInt]
  exact fraction_form.e0 n d _ sn (by rw[hz];rfl)
 ·have hsn:sgn n.val≠0:=by unfold sgn cmpI;split<;>(try split)<;>omega
  by_cases hneg:d.val<0
  ·have e:Rat.divInt n.val d.val=Rat.divInt (-n.val) (-d.val):=by rw[Rat.divInt_neg',Int.neg_neg]
   have n1:=CInt.Neg n hn
   have d1:=CInt.Neg d hd
   have l1:(Sym.whole (-n.val)).mag.length≤1099511627776:=by show wl _≤_;rw[wl_neg];omega
   have l2:(Sym.whole (-d.val)).mag.length≤1099511627776:=by show wl _≤_;rw[wl_neg];omega
   have g:=CInt.Gcd _ _ l1 l2
   rw[whole_val,whole_val] at g
   have hgl:=gcd_wl (a := -n.val) (b := -d.val) (k:=1099511627776) (by rw[wl_neg];omega) (by rw[wl_neg];omega)
   have s2:=CInt.Sign _ l1
   rw[whole_val] at s2
   rw[e,formed (by omega) (by omega) _ rfl]
   obtain⟨f1,f2⟩:=formed_neg (n := -n.val) (by omega) (Nat.gcd (-n.val).natAbs (-d.val).natAbs) (Nat.gcd_dvd_left _ _)
   have hg0:((Nat.gcd (-n.val).natAbs (-d.val).natAbs:Nat):Int)≠0:=by
    have:=Nat.gcd_pos_of_pos_left (-d.val).natAbs (show 0<(-n.val).natAbs by omega)
    omega
   rw[f1,show(Sym.whole (-n.val/((Nat.gcd (-n.val).natAbs (-d.val).natAbs:Nat):Int))).mag=(Sym.whole (((-n.val).natAbs:Int)/((Nat.gcd (-n.val).natAbs (-d.val).natAbs:Nat):Int))).mag from by unfold Sym.whole;rw[f2]]
   generalize hG:((Nat.gcd (-n.val).natAbs (-d.val).natAbs:Nat):Int)=G at *
   have dd:=CInt.Div (Sym.whole (-d.val)) (Sym.whole G) l2 hgl (by rw[whole_val];exact hg0)
   rw[whole_val,whole_val] at dd
   by_cases hs : -n.val<0
   ·have n2:=CInt.Neg _ l1
    rw[whole_val] at n2
    have dn:=CInt.Div (Sym.whole (- -n.val)) (Sym.whole G) (by show wl _≤_;rw[wl_neg,wl_neg];omega) hgl (by rw[whole_val];exact hg0)
    rw[whole_val,whole_val] at dn
    rw[show ((-n.val).natAbs:Int) = - -n.val from by omega]
    have:=fraction_form.e1 n d _ _ _ _ _ _ _ _ _ none _ _ none sn hsn sd (by unfold sgn cmpI;rw[if_pos hneg];omega) n1 d1 g s2 (by unfold sgn cmpI;rw[if_pos hs];omega) n2 dn dd
    rw[show decide (sgn (-n.val)<0)=decide (-n.val<0) from by unfold sgn cmpI;rw[if_pos hs,decide_eq_true hs];rfl] at this
    exact this
   ·have dn:=CInt.Div (Sym.whole (-n.val)) (Sym.whole G) l1 hgl (by rw[whole_val];exact hg0)
    rw[whole_val,whole_val] at dn
    rw[show ((-n.val).natAbs:Int) = -n.val from by omega]
    have hs2:sgn (-n.val)=1:=by unfold sgn cmpI;rw[if_neg hs,if_neg (by omega)]
    have:=fraction_form.e2 n d _ _ _ _ _ _ _ _ none _ _ none sn hsn sd (by unfold sgn cmpI;rw[if_pos hneg];omega) n1 d1 g s2 (by rw[hs2];omega) dn dd
    rw[show decide (sgn (-n.val)<0)=decide (-n.val<0) from by rw[hs2,decide_eq_false hs];rfl] at this
    exact this
  ·have g:=CInt.Gcd _ _ hn hd
   have hgl:=gcd_wl (a:=n.val) (b:=d.val) (k:=1099511627776) (by omega) (by omega)
   rw[formed hz (by omega) _ rfl]
   obtain⟨f1,f2⟩:=formed_neg hz (Nat.gcd n.val.natAbs d.val.natAbs) (Nat.gcd_dvd_left _ _)
   have hg0:((Nat.gcd n.val.natAbs d.val.natAbs:Nat):Int)≠0:=by
    have:=Nat.gcd_pos_of_pos_left d.val.natAbs (show 0<n.val.natAbs by omega)
    omega
   rw[f1,show(Sym.whole (n.val/((Nat.gcd n.val.natAbs d.val.natAbs:Nat):Int))).mag=(Sym.whole ((n.val.natAbs:Int)/((Nat.gcd n.val.natAbs d.val.natAbs:Nat):Int))).mag from by unfold Sym.whole;rw[f2]]
   generalize hG:((Nat.gcd n.val.natAbs d.val.natAbs:Nat):Int)=G at *
   have dd:=CInt.Div d (Sym.whole G) hd hgl (by rw[whole_val];exact hg0)
   rw[whole_val] at dd
   have hsd:0≤sgn d.val:=by unfold sgn cmpI;rw[if_neg hneg];split<;>omega
   by_cases hs:n.val<0
   ·have n2:=CInt.Neg _ hn
    have dn:=CInt.Div (Sym.whole (-n.val)) (Sym.whole G) (by show wl _≤_;rw[wl_neg];omega) hgl (by rw[whole_val];exact hg0)
    rw[whole_val,whole_val] at dn
    rw[show (n.val.natAbs:Int) = -n.val from by omega]
    have:=fraction_form.e3 n d _ _ _ _ _ _ _ none _ _ none sn hsn sd hsd g sn (by unfold sgn cmpI;rw[if_pos hs];omega) n2 dn dd
    rw[show decide (sgn n.val<0)=decide (n.val<0) from by unfold sgn cmpI;rw[if_pos hs,decide_eq_true hs];rfl] at this
    exact this
   ·have dn:=CInt.Div n (Sym.whole G) hn hgl (by rw[whole_val];exact hg0)
    rw[whole_val] at dn
    rw[show (n.val.natAbs:Int)=n.val from by omega]
    have hs2:sgn n.val=1:=by unfold sgn cmpI;rw[if_neg hs,if_neg (by omega)]
    have:=fraction_form.e4 n d _ _ _ _ _ _ none _ _ none sn hsn sd hsd g sn (by rw[hs2];omega) dn dd
    rw[show decide (sgn n.val<0)=decide (n.val<0) from by rw[hs2,decide_eq_false hs];rfl] at this
    exact this
theorem form'(n d:Int)(hn:wl n≤1099511627776)(hd:wl d≤1099511627776)(h0:d≠0):Contract prg 61 [(Sym.whole n).pv,(Sym.whole d).pv] (mkR (Rat.divInt n d)).pv:=by
 have:=form (Sym.whole n) (Sym.whole d) hn hd (by rw[whole_val];exact h0)
 rwa[whole_val,whole_val] at this
theorem From(n d:AWhole)(hn:n.mag.length≤1099511627776)(hd:d.mag.length≤1099511627776)(h0:d.val≠0):Contract prg 96 [n.pv,d.pv] (.tup [(mkR (Rat.divInt n.val d.val)).pv,.nilI]) :=
 fraction_From.e1 n d _ _ (CInt.Sign d hd) (by unfold sgn cmpI;split<;>(try split)<;>omega) (form n d hn hd h0)
theorem Of(n:Int)(h:InI64 n):Contract prg 29 [vI n] (mkR (n:Rat)).pv:=by
 have hw:wl n≤2:=wl_le (by unfold InI64 at h;omega)
 have:=form' n 1 (by omega) (by decide) (by omega)
 rw[show Rat.divInt n 1=(n:Rat) from by rw[Rat.divInt_eq_div];grind] at this
 exact fraction_Of.e0 n _ _ _ (CInt.Of n h) one this
theorem Neg(a:ARat)(h:FitR a):Contract prg 23 [a.pv] (mkR (-a.val)).pv:=by
 have hp:=Parts a h
 have hh:=ht_fit h.1 h.2 (by omega)
 have h1:=ht_num a.val
 have h2:=ht_den a.val
 have hn:=CInt.Neg (Sym.whole a.val.num) (show wl _≤_ by omega)
 rw[whole_val] at hn
 have hf:=form' (-a.val.num) a.val.den (by rw[wl_neg];omega) (by omega) (by have:=a.val.den_nz;omega)
 rw[←Rat.neg_divInt,Rat.num_divInt_den] at hf
 exact fraction_Neg.e0 a _ _ _ _ hp hn hf
theorem Sign(a:ARat)(h:FitR a):Contract prg 31 [a.pv] (vI (cmpR a.val 0)):=by
 have hp:=Parts a h
 have hh:=ht_fit h.1 h.2 (by omega)
 have h1:=ht_num a.val
 have hs:=CInt.Sign (Sym.whole a.val.num) (show wl _≤_ by omega)
 rw[whole_val,cmpR_zero] at hs
 exact fraction_Sign.e0 a _ _ _ hp hs
theorem Add(a b:ARat)(ha:FitR a)(hb:FitR b):Contract prg 68 [a.pv,b.pv] (mkR (a.val+b.val)).pv:=by
 have pa:=Parts a ha
 have pb:=Parts b hb
 have la:=ht_fit ha.1 ha.2 (by omega)
 have lb:=ht_fit hb.1 hb.2 (by omega)
 have h1:=ht_num a.val
 have h2:=ht_den a.val
 have h3:=ht_num b.val
 have h4:=ht_den b.val
 have m1:=CInt.Mul (Sym.whole a.val.num) (Sym.whole (b.val.den:Int)) (show wl _≤_ by omega) (show wl _≤_ by omega)
 have m2:=CInt.Mul (Sym.whole b.val.num) (Sym.whole (a.val.den:Int)) (show wl _≤_ by omega) (show wl _≤_ by omega)
 have m3:=CInt.Mul (Sym.whole (a.val.den:Int)) (Sym.whole (b.val.den:Int)) (show wl _≤_ by omega) (show wl _≤_ by omega)
 rw[whole_val,whole_val] at m1 m2 m3
 have w1:=wl_mul a.val.num b.val.den
 have w2:=wl_mul b.val.num a.val.den
 have w3:=wl_mul (a.val.den:Int) b.val.den
 have s:=CInt.Add (Sym.whole (a.val.num*b.val.den)) (Sym.whole (b.val.num*a.val.den)) (show wl _≤_ by omega) (show wl _≤_ by omega)
 rw[whole_val,whole_val] at s
 have w4:=wl_add (a.val.num*b.val.den) (b.val.num*a.val.den)
 have hf:=form' (a.val.num*b.val.den+b.val.num*a.val.den) ((a.val.den:Int)*(b.val.den:Int)) (by omega) (by omega) (by
  have:=a.val.den_nz
  have:=b.val.den_nz
  exact Int.mul_ne_zero (by omega) (by omega))
 rw[←Int.natCast_mul,Rat.divInt_ofNat,←Rat.add_def',Int.natCast_mul] at hf
 exact fraction_Add.e0 a b _ _ _ _ _ _ _ _ _ pa pb m1 m2 s m3 hf
theorem Sub(a b:ARat)(ha:FitR a)(hb:FitR b):Contract prg 34 [a.pv,b.pv] (mkR (a.val-b.val)).pv:=by
 have hn:=Neg b hb
 have lb:=ht_fit hb.1 hb.2 (by omega)
 have hs:=Add a (mkR (-b.val)) ha (fit_mkR (by rw[ht_neg];exact lb))
 rw[mkR_val,←Rat.sub_eq_add_neg] at hs
 exact fraction_Sub.e0 a b _ _ hn hs
theorem Mul(a b:ARat)(ha:FitR a)(hb:FitR b):Contract prg 25 [a.pv,b.pv] (mkR (a.val*b.val)).pv:=by
 have pa:=Parts a ha
 have pb:=Parts b hb
 have la:=ht_fit ha.1 ha.2 (by omega)
 have lb:=ht_fit hb.1 hb.2 (by omega)
 have h1:=ht_num a.val
 have h2:=ht_den a.val
 have h3:=ht_num b.val
 have h4:=ht_den b.val
 have m1:=CInt.Mul (Sym.whole a.val.num) (Sym.whole b.val.num) (show wl _≤_ by omega) (show wl _≤_ by omega)
 have m3:=CInt.Mul (Sym.whole (a.val.den:Int)) (Sym.whole (b.val.den:Int)) (show wl _≤_ by omega) (show wl _≤_ by omega)
 rw[whole_val,whole_val] at m1 m3
 have w1:=wl_mul a.val.num b.val.num
 have w3:=wl_mul (a.val.den:Int) b.val.den
 have hf:=form' (a.val.num*b.val.num) ((a.val.den:Int)*(b.val.den:Int)) (by omega) (by omega) (by
  have:=a.val.den_nz
  have:=b.val.den_nz
  exact Int.mul_ne_zero (by omega) (by omega))
 rw[←Int.natCast_mul,Rat.divInt_ofNat,←Rat.mul_def',Int.natCast_mul] at hf
 exact fraction_Mul.e0 a b _ _ _ _ _ _ _ pa pb m1 m3 hf
theorem Div(a b:ARat)(ha:FitR a)(hb:FitR b)(h0:b.val≠0):Contract prg 49 [a.pv,b.pv] (.tup [(mkR (a.val/b.val)).pv,.nilI]):=by
 have pa:=Parts a ha
 have pb:=Parts b hb
 have la:=ht_fit ha.1 ha.2 (by omega)
 have lb:=ht_fit hb.1 hb.2 (by omega)
 have h1:=ht_num a.val
 have h2:=ht_den a.val
 have h3:=ht_num b.val
 have h4:=ht_den b.val
 have m1:=CInt.Mul (Sym.whole a.val.num) (Sym.whole (b.val.den:Int)) (show wl _≤_ by omega) (show wl _≤_ by omega)
 have m3:=CInt.Mul (Sym.whole (a.val.den:Int)) (Sym.whole b.val.num) (show wl _≤_ by omega) (show wl _≤_ by omega)
 rw[whole_val,whole_val] at m1 m3
 have w1:=wl_mul a.val.num b.val.den
 have w3:=wl_mul (a.val.den:Int) b.val.num
 have hf:=From (Sym.whole (a.val.num*b.val.den)) (Sym.whole ((a.val.den:Int)*b.val.num)) (show wl _≤_ by omega) (show wl _≤_ by omega) (by
  rw[whole_val]
  have:=a.val.den_nz
  refine Int.mul_ne_zero (by omega) (fun e=>h0 (Rat.num_eq_zero.1 e)))
 rw[whole_val,whole_val,←Rat.divInt_mul_divInt,Rat.num_divInt_den,←Rat.inv_def,←Rat.div_def] at hf
 exact fraction_Div.e0 a b _ _ _ _ _ _ _ none pa pb m1 m3 hf
theorem Cmp(a b:ARat)(ha:FitR a)(hb:FitR b):Contract prg 24 [a.pv,b.pv] (vI (cmpR a.val b.val)):=by
 have pa:=Parts a ha
 have pb:=Parts b hb
 have la:=ht_fit ha.1 ha.2 (by omega)
 have lb:=ht_fit hb.1 hb.2 (by omega)
 have h1:=ht_num a.val
 have h2:=ht_den a.val
 have h3:=ht_num b.val
 have h4:=ht_den b.val
 have m1:=CInt.Mul (Sym.whole a.val.num) (Sym.whole (b.val.den:Int)) (show wl _≤_ by omega) (show wl _≤_ by omega)
 have m2:=CInt.Mul (Sym.whole b.val.num) (Sym.whole (a.val.den:Int)) (show wl _≤_ by omega) (show wl _≤_ by omega)
 rw[whole_val,whole_val] at m1 m2
 have w1:=wl_mul a.val.num b.val.den
 have w2:=wl_mul b.val.num a.val.den
 have hc:=CInt.Cmp (Sym.whole (a.val.num*b.val.den)) (Sym.whole (b.val.num*a.val.den)) (show wl _≤_ by omega) (show wl _≤_ by omega)
 rw[whole_val,whole_val,cmpR_int] at hc
 exact fraction_Cmp.e0 a b _ _ _ _ _ _ _ pa pb m1 m2 hc
end CFr
end Go.Proofs.YtboilcfohmmpbaaGreatDoor.Sym
namespace Go.Proofs.YtboilcfohmmpbaaGreatDoor.Sym
open Go Path CInt
set_option linter.unusedVariables false
namespace CRb
theorem one:Contract prg 67 [] (Sym.whole 1).pv:=linkworkref02_one.e0 _ (CRa.Of 1 (by unfold InI64;omega))
theorem plain(m:Words)(h:m.length≤274877906944):Contract prg 127 [wordsPV m] (vB (!m.isEmpty&&cn m)):=by
 rw[isEmpty_len]
 by_cases h0:m.length=0
 ·rw[decide_eq_true h0,Bool.not_true,Bool.false_and]
  exact linkworkref02_plain.e1 m (by omega)
 ·rw[decide_eq_false h0,Bool.not_false,Bool.true_and]
  obtain⟨v,hv⟩:∃v,m[m.length-1]? = some v:=⟨_,List.getElem?_eq_getElem (by omega)⟩
  have:=linkworkref02_plain.e0 m (m.length-1) v (by omega) (by unfold InI64;omega) (by omega) hv
  have e:cn m=((v.toNat:Int) != 0):=by
   have h1:=cn_last hv
   by_cases h2:v.toNat=0
   ·have h3:((v.toNat:Int) != 0)=false:=by simp[h2]
    rw[h3]
    cases hc:cn m with
    |true=>exact absurd h2 (h1.1 hc)
    |false=>rfl
   ·have h3:((v.toNat:Int) != 0)=true:=by simp;omega
    rw[h3];exact h1.2 h2
  rw[e];exact this
theorem plain'{m:Words}(h:m.length≤274877906944)(h0:m.length≠0):Contract prg 127 [wordsPV m] (vB (cn m)):=by
 have:=plain m h
 rwa[isEmpty_len,decide_eq_false h0,Bool.not_false,Bool.true_and] at this
theorem plain0{m:Words}(h0:m.length=0):Contract prg 127 [wordsPV m] (vB false):=by
 have:=plain m (by omega)
 rwa[isEmpty_len,decide_eq_true h0,Bool.not_true,Bool.false_and] at this
theorem Valid(a:ARat)(h:FitR a):Contract prg 92 [a.pv] (vB a.valid):=by
 obtain⟨l1,l2⟩:=h
 by_cases h1:a.num.length=0
 ·by_cases h2:a.den.length=0
  ·rw[valid_e0 h1 h2];exact linkworkref02_Valid.e0 a h1 h2
  ·rw[valid_e1 h1 h2];exact linkworkref02_Valid.e3 a _ h1 h2 (plain0 h1) rfl
 ·have p1:=plain' l1 h1
  by_cases h2:a.den.length=0
  ·rw[valid_e2 h1 h2]
   cases hc1:cn a.num with
   |false=>exact linkworkref02_Valid.e6 a _ h1 p1 hc1
   |true=>exact linkworkref02_Valid.e5 a _ _ h1 p1 hc1 (plain0 h2) rfl
  ·have p2:=plain' l2 h2
   rw[valid_e3 h1 h2]
   cases hc1:cn a.num with
   |false=>rw[Bool.false_and];exact linkworkref02_Valid.e6 a _ h1 p1 hc1
   |true =>
    rw[Bool.true_and]
    cases hc2:cn a.den with
    |false=>rw[Bool.false_and];exact linkworkref02_Valid.e5 a _ _ h1 p1 hc1 p2 hc2
    |true =>
     have hg:=CRa.Gcd ⟨false,a.num⟩ ⟨false,a.den⟩ (show a.num.length≤_ by omega) (show a.den.length≤_ by omega)
     rw[word_val h1 hc1,word_val h2 hc2,Int.natAbs_natCast,Int.natAbs_natCast] at hg
     have gl:=gcd_wl (a:=(nat a.num:Int)) (b:=(nat a.den:Int)) (k:=274877906944) (by show(words _).length≤_;rw[Int.natAbs_natCast,words_nat hc1];exact l1) (by show(words _).length≤_;rw[Int.natAbs_natCast,words_nat hc2];exact l2)
     rw[Int.natAbs_natCast,Int.natAbs_natCast] at gl
     have hc:=CRa.Cmp (Sym.whole (Nat.gcd (nat a.num) (nat a.den):Nat)) (Sym.whole 1) (show wl _<_ by omega) (show wl 1<_ by decide)
     rw[whole_val,whole_val] at hc
     rw[Bool.true_and,←cmp_one]
     exact linkworkref02_Valid.e4 a _ _ _ _ _ h1 p1 hc1 p2 hc2 hg one hc
theorem Parts(a:ARat)(h:FitR a):Contract prg 100 [a.pv] (.tup [(Sym.whole a.val.num).pv,(Sym.whole (a.val.den:Int)).pv]):=by
 have hv:=Valid a h
 cases hc:a.valid with
 |false=>rw[val_inv hc];exact linkworkref02_Parts.e0 a _ _ hv hc one
 |true =>
  by_cases h0:a.num.length=0
  ·rw[val_nil (List.eq_nil_of_length_eq_zero h0)];exact linkworkref02_Parts.e1 a _ _ hv hc h0 one
  ·obtain⟨e1,e2⟩:=parts_of hc h0
   rw[e1,e2]
   exact linkworkref02_Parts.e2 a _ hv hc h0
theorem form(n d:AWhole)(hn:n.mag.length≤1099511627776)(hd:d.mag.length≤1099511627776)(h0:d.val≠0):Contract prg 65 [n.pv,d.pv] (mkR (Rat.divInt n.val d.val)).pv:=by
 have sn:=CRa.Sign n hn
 have sd:=CRa.Sign d hd
 have wn:=val_natAbs_le n
 have wd':=val_natAbs_le d
 by_cases hz:n.val=0
 ·rw[hz,Rat.zero_divInt]
  exact linkworkref02_form.e0 n d _ sn (by rw[hz];rfl)
 ·have hsn:sgn n.val≠0:=by unfold sgn cmpI;split<;>(try split)<;>omega
  by_cases hneg:d.val<0
  ·have e:Rat.divInt n.val d.val=Rat.divInt (-n.val) (-d.val):=by rw[Rat.divInt_neg',Int.neg_neg]
   have n1:=CRa.Neg n hn
   have d1:=CRa.Neg d hd
   have l1:(Sym.whole (-n.val)).mag.length≤1099511627776:=by show wl _≤_;rw[wl_neg];omega
   have l2:(Sym.whole (-d.val)).mag.length≤1099511627776:=by show wl _≤_;rw[wl_neg];omega
   have g:=CRa.Gcd _ _ l1 l2
   rw[whole_val,whole_val] at g
   have hgl:=gcd_wl (a := -n.val) (b := -d.val) (k:=1099511627776) (by rw[wl_neg];omega) (by rw[wl_neg];omega)
   rw[e,formed (by omega) (by omega) _ rfl]
   have hg0:((Nat.gcd (-n.val).natAbs (-d.val).natAbs:Nat):Int)≠0:=by
    have:=Nat.gcd_pos_of_pos_left (-d.val).natAbs (show 0<(-n.val).natAbs by omega)
    omega
   generalize hG:((Nat.gcd (-n.val).natAbs (-d.val).natAbs:Nat):Int)=G at *
   have dd:=CRa.Div (Sym.whole (-d.val)) (Sym.whole G) l2 hgl (by rw[whole_val];exact hg0)
   have dn:=CRa.Div (Sym.whole (-n.val)) (Sym.whole G) l1 hgl (by rw[whole_val];exact hg0)
   rw[whole_val,whole_val] at dd dn
   exact linkworkref02_form.e1 n d _ _ _ _ _ _ _ _ _ _ _ sn hsn sd (by unfold sgn cmpI;rw[if_pos hneg];omega) n1 d1 g dn dd
  ·have g:=CRa.Gcd _ _ hn hd
   have hgl:=gcd_wl (a:=n.val) (b:=d.val) (k:=1099511627776) (by omega) (by omega)
   rw[formed hz (by omega) _ rfl]
   have hg0:((Nat.gcd n.val.natAbs d.val.natAbs:Nat):Int)≠0:=by
    have:=Nat.gcd_pos_of_pos_left d.val.natAbs (show 0<n.val.natAbs by omega)
    omega
   generalize hG:((Nat.gcd n.val.natAbs d.val.natAbs:Nat):Int)=G at *
   have dd:=CRa.Div d (Sym.whole G) hd hgl (by rw[whole_val];exact hg0)
   have dn:=CRa.Div n (Sym.whole G) hn hgl (by rw[whole_val];exact hg0)
   rw[whole_val] at dd dn
   have hsd:0≤sgn d.val:=by unfold sgn cmpI;rw[if_neg hneg];split<;>omega
   exact linkworkref02_form.e2 n d _ _ _ _ _ _ _ _ _ sn hsn sd hsd g dn dd
theorem form'(n d:Int)(hn:wl n≤1099511627776)(hd:wl d≤1099511627776)(h0:d≠0):Contract prg 65 [(Sym.whole n).pv,(Sym.whole d).pv] (mkR (Rat.divInt n d)).pv:=by
 have:=form (Sym.whole n) (Sym.whole d) hn hd (by rw[whole_val];exact h0)
 rwa[whole_val,whole_val] at this
theorem From(n d:AWhole)(hn:n.mag.length≤1099511627776)(hd:d.mag.length≤1099511627776)(h0:d.val≠0):Contract prg 101 [n.pv,d.pv] (.tup [(mkR (Rat.divInt n.val d.val)).pv,(vI 0)]) :=
 linkworkref02_From.e1 n d _ _ (CRa.Sign d hd) (by unfold sgn cmpI;split<;>(try split)<;>omega) (form n d hn hd h0)
theorem Of(n:Int)(h:InI64 n):Contract prg 27 [vI n] (mkR (n:Rat)).pv:=by
 have hw:wl n≤2:=wl_le (by unfold InI64 at h;omega)
 have:=form' n 1 (by omega) (by decide) (by omega)
 rw[show Rat.divInt n 1=(n:Rat) from by rw[Rat.divInt_eq_div];grind] at this
 exact linkworkref02_Of.e0 n _ _ _ (CRa.Of n h) one this
theorem Neg(a:ARat)(h:FitR a):Contract prg 55 [a.pv] (mkR (-a.val)).pv:=by
 have hp:=Parts a h
 have hh:=ht_fit h.1 h.2 (by omega)
 have h1:=ht_num a.val
 have h2:=ht_den a.val
 have hn:=CRa.Neg (Sym.whole a.val.num) (show wl _≤_ by omega)
 rw[whole_val] at hn
 have hf:=form' (-a.val.num) a.val.den (by rw[wl_neg];omega) (by omega) (by have:=a.val.den_nz;omega)
 rw[←Rat.neg_divInt,Rat.num_divInt_den] at hf
 exact linkworkref02_Neg.e0 a _ _ _ _ hp hn hf
theorem Sign(a:ARat)(h:FitR a):Contract prg 93 [a.pv] (vI (cmpR a.val 0)):=by
 have hp:=Parts a h
 have hh:=ht_fit h.1 h.2 (by omega)
 have h1:=ht_num a.val
 have hs:=CRa.Sign (Sym.whole a.val.num) (show wl _≤_ by omega)
 rw[whole_val,cmpR_zero] at hs
 exact linkworkref02_Sign.e0 a _ _ _ hp hs
theorem Add(a b:ARat)(ha:FitR a)(hb:FitR b):Contract prg 134 [a.pv,b.pv] (mkR (a.val+b.val)).pv:=by
 have pa:=Parts a ha
 have pb:=Parts b hb
 have la:=ht_fit ha.1 ha.2 (by omega)
 have lb:=ht_fit hb.1 hb.2 (by omega)
 have h1:=ht_num a.val
 have h2:=ht_den a.val
 have h3:=ht_num b.val
 have h4:=ht_den b.val
 have m1:=CRa.Mul (Sym.whole a.val.num) (Sym.whole (b.val.den:Int)) (show wl _≤_ by omega) (show wl _≤_ by omega)
 have m2:=CRa.Mul (Sym.whole b.val.num) (Sym.whole (a.val.den:Int)) (show wl _≤_ by omega) (show wl _≤_ by omega)
 have m3:=CRa.Mul (Sym.whole (a.val.den:Int)) (Sym.whole (b.val.den:Int)) (show wl _≤_ by omega) (show wl _≤_ by omega)
 rw[whole_val,whole_val] at m1 m2 m3
 have w1:=wl_mul a.val.num b.val.den
 have w2:=wl_mul b.val.num a.val.den
 have w3:=wl_mul (a.val.den:Int) b.val.den
 have s:=CRa.Add (Sym.whole (a.val.num*b.val.den)) (Sym.whole (b.val.num*a.val.den)) (show wl _≤_ by omega) (show wl _≤_ by omega)
 rw[whole_val,whole_val] at s
 have w4:=wl_add (a.val.num*b.val.den) (b.val.num*a.val.den)
 have hf:=form' (a.val.num*b.val.den+b.val.num*a.val.den) ((a.val.den:Int)*(b.val.den:Int)) (by omega) (by omega) (by
  have:=a.val.den_nz
  have:=b.val.den_nz
  exact Int.mul_ne_zero (by omega) (by omega))
 rw[←Int.natCast_mul,Rat.divInt_ofNat,←Rat.add_def',Int.natCast_mul] at hf
 exact linkworkref02_Add.e0 a b _ _ _ _ _ _ _ _ _ pa pb m1 m2 s m3 hf
theorem Sub(a b:ARat)(ha:FitR a)(hb:FitR b):Contract prg 98 [a.pv,b.pv] (mkR (a.val-b.val)).pv:=by
 have hn:=Neg b hb
 have lb:=ht_fit hb.1 hb.2 (by omega)
 have hs:=Add a (mkR (-b.val)) ha (fit_mkR (by rw[ht_neg];exact lb))
 rw[mkR_val,←Rat.sub_eq_add_neg] at hs
 exact linkworkref02_Sub.e0 a b _ _ hn hs
theorem Mul(a b:ARat)(ha:FitR a)(hb:FitR b):Contract prg 97 [a.pv,b.pv] (mkR (a.val*b.val)).pv:=by
 have pa:=Parts a ha
 have pb:=Parts b hb
 have la:=ht_fit ha.1 ha.2 (by omega)
 have lb:=ht_fit hb.1 hb.2 (by omega)
 have h1:=ht_num a.val
 have h2:=ht_den a.val
 have h3:=ht_num b.val
 have h4:=ht_den b.val
 have m1:=CRa.Mul (Sym.whole a.val.num) (Sym.whole b.val.num) (show wl _≤_ by omega) (show wl _≤_ by omega)
 have m3:=CRa.Mul (Sym.whole (a.val.den:Int)) (Sym.whole (b.val.den:Int)) (show wl _≤_ by omega) (show wl _≤_ by omega)
 rw[whole_val,whole_val] at m1 m3
 have w1:=wl_mul a.val.num b.val.num
 have w3:=wl_mul (a.val.den:Int) b.val.den
 have hf:=form' (a.val.num*b.val.num) ((a.val.den:Int)*(b.val.den:Int)) (by omega) (by omega) (by
  have:=a.val.den_nz
  have:=b.val.den_nz
  exact Int.mul_ne_zero (by omega) (by omega))
 rw[←Int.natCast_mul,Rat.divInt_ofNat,←Rat.mul_def',Int.natCast_mul] at hf
 exact linkworkref02_Mul.e0 a b _ _ _ _ _ _ _ pa pb m1 m3 hf
theorem Div(a b:ARat)(ha:FitR a)(hb:FitR b)(h0:b.val≠0):Contract prg 54 [a.pv,b.pv] (.tup [(mkR (a.val/b.val)).pv,(vI 0)]):=by
 have pa:=Parts a ha
 have pb:=Parts b hb
 have la:=ht_fit ha.1 ha.2 (by omega)
 have lb:=ht_fit hb.1 hb.2 (by omega)
 have h1:=ht_num a.val
 have h2:=ht_den a.val
 have h3:=ht_num b.val
 have h4:=ht_den b.val
 have m1:=CRa.Mul (Sym.whole a.val.num) (Sym.whole (b.val.den:Int)) (show wl _≤_ by omega) (show wl _≤_ by omega)
 have m3:=CRa.Mul (Sym.whole (a.val.den:Int)) (Sym.whole b.val.num) (show wl _≤_ by omega) (show wl _≤_ by omega)
 rw[whole_val,whole_val] at m1 m3
 have w1:=wl_mul a.val.num b.val.den
 have w3:=wl_mul (a.val.den:Int) b.val.num
 have hf:=From (Sym.whole (a.val.num*b.val.den)) (Sym.whole ((a.val.den:Int)*b.val.num)) (show wl _≤_ by omega) (show wl _≤_ by omega) (by
  rw[whole_val]
  have:=a.val.den_nz
  refine Int.mul_ne_zero (by omega) (fun e=>h0 (Rat.num_eq_zero.1 e)))
 rw[whole_val,whole_val,←Rat.divInt_mul_divInt,Rat.num_divInt_den,←Rat.inv_def,←Rat.div_def] at hf
 exact linkworkref02_Div.e0 a b _ _ _ _ _ _ _ 0 pa pb m1 m3 hf
theorem Cmp(a b:ARat)(ha:a.num.length≤68719476736∧a.den.length≤68719476736)(hb:b.num.length≤68719476736∧b.den.length≤68719476736):Contract prg 91 [a.pv,b.pv] (vI (cmpR a.val b.val)):=by
 have la:=ht_fit ha.1 ha.2 (by omega)
 have lb:=ht_fit hb.1 hb.2 (by omega)
 have hs:=Sub a b ⟨by omega,by omega⟩ ⟨by omega,by omega⟩
 have hl:=ht_sub a.val b.val
 have hg:=Sign (mkR (a.val-b.val)) (fit_mkR (by omega))
 rw[mkR_val,←cmpR_zero,cmpR_sub] at hg
 exact linkworkref02_Cmp.e0 a b _ _ hs hg
end CRb
end Go.Proofs.YtboilcfohmmpbaaGreatDoor.Sym
namespace Go.Proofs.YtboilcfohmmpbaaGreatDoor.Sym
open Go Path CInt
set_option linter.unusedVariables false
def vals(p:List ARat):List Rat:=p.map ARat.val
abbrev FitP(k:Nat)(p:List ARat):Prop:=∀a∈p,a.num.length≤k∧a.den.length≤k
abbrev Fl(k:Nat)(q:List Rat):Prop:=∀x∈q,ht x≤k
def trimL:List Rat→List Rat
 |[]=>[]
 |a::r=>bif (trimL r).isEmpty&&decide (a=0) then [] else a::trimL r
theorem trimL_zero:∀q:List Rat,trimL (q++[0])=trimL q
 |[]=>rfl
 |a::r=>by
  show(bif (trimL (r++[0])).isEmpty&&decide (a=0) then [] else a::trimL (r++[0]))=_
  rw[trimL_zero r];rfl
theorem trimL_ne{v:Rat}(h:v≠0):∀{q:List Rat},trimL (q++[v])=q++[v]
 |[]=>by
  show(bif (trimL []).isEmpty&&decide (v=0) then [] else v::trimL [])=[v]
  rw[decide_eq_false h,Bool.and_false];rfl
 |a::r=>by
  show(bif (trimL (r++[v])).isEmpty&&decide (a=0) then [] else a::trimL (r++[v]))=_
  rw[trimL_ne h]
  cases r<;>rfl
theorem snoc_of{α:Type}{q:List α}{n:Nat}{v:α}(h:q[n]? = some v)(hl:q.length=n+1):q=q.take n++[v]:=by
 have:=List.take_add_one (l:=q) (i:=n)
 rw[h,List.take_of_length_le (by omega)] at this
 exact this
theorem fl_vals{k:Nat}{p:List ARat}(h:FitP k p)(hk:1≤k):Fl k (vals p):=by
 intro x hx
 unfold vals at hx
 obtain⟨a,ha,rfl⟩:=List.mem_map.1 hx
 exact ht_fit (h a ha).1 (h a ha).2 hk
theorem fit_map{q:List Rat}(h:Fl 274877906944 q):FitP 274877906944 (q.map mkR):=by
 intro a ha
 obtain⟨x,hx,rfl⟩:=List.mem_map.1 ha
 exact fit_mkR (h x hx)
theorem fit_mkRk{q:Rat}{k:Nat}(h:ht q≤k):(mkR q).num.length≤k∧(mkR q).den.length≤k:=by
 by_cases h0:q=0
 ·subst h0;constructor<;>simp[mkR_zero]
 ·rw[mkR_ne h0]
  exact⟨Nat.le_trans (ht_num q) h,Nat.le_trans (ht_den q) h⟩
theorem fit_mapk{q:List Rat}{k:Nat}(h:Fl k q):FitP k (q.map mkR):=by
 intro a ha
 obtain⟨x,hx,rfl⟩:=List.mem_map.1 ha
 exact fit_mkRk (h x hx)
theorem vals_mkR(q:List Rat):vals (q.map mkR)=q:=by
 unfold vals
 rw[List.map_map]
 conv=>rhs;rw[←List.map_id q]
 exact List.map_congr_left (fun x _=>mkR_val x)
theorem vals_of{p:List ARat}(h:p.all ARat.valid=true):(vals p).map mkR=p:=by
 unfold vals
 rw[List.map_map]
 conv=>rhs;rw[←List.map_id p]
 exact List.map_congr_left (fun x hx=>mkR_of (List.all_eq_true.1 h x hx))
def lastZ(q:List Rat):Bool:=match q.getLast? with
 |none=>false
 |some v=>decide (v=0)
theorem lastZ_true{p:List ARat}(h:lastZ (vals p)=true):∃v,0<p.length∧p[p.length-1]? = some v∧v.val=0:=by
 unfold lastZ vals at h
 rw[List.getLast?_map,List.getLast?_eq_getElem?] at h
 cases hv:p[p.length-1]? with
 |none=>rw[hv] at h;cases h
 |some v =>
  rw[hv] at h
  have h:decide (v.val=0)=true:=h
  exact⟨v,by have:=(List.getElem?_eq_some_iff.1 hv).1;omega,rfl,of_decide_eq_true h⟩
theorem lastZ_false{p:List ARat}(h:lastZ (vals p)=false)(h0:p.length≠0):∃v,p[p.length-1]? = some v∧v.val≠0:=by
 unfold lastZ vals at h
 rw[List.getLast?_map,List.getLast?_eq_getElem?] at h
 obtain⟨v,hv⟩:∃v,p[p.length-1]? = some v:=⟨_,List.getElem?_eq_getElem (by omega)⟩
 rw[hv] at h
 have h:decide (v.val=0)=false:=h
 exact⟨v,hv,of_decide_eq_false h⟩
def chk(p:List ARat):Int:=if 65<p.length then 4 else bif p.all ARat.valid then (bif lastZ (vals p) then 8 else 0) else 2
def errOf(n:Int):Option Int:=if n=0 then none else some n
theorem errOf_ne{n:Int}(h:n≠0):errOf n=some n:=if_neg h
theorem chk_len{p:List ARat}(h:chk p=0):p.length≤65:=by
 unfold chk at h
 split at h
 ·cases h
 ·omega
theorem chk_valid{p:List ARat}(h:chk p=0):p.all ARat.valid=true:=by
 unfold chk at h
 split at h
 ·cases h
 ·cases hv:p.all ARat.valid with
  |true=>rfl
  |false=>rw[hv] at h;cases h
theorem chk_last{p:List ARat}(h:chk p=0):lastZ (vals p)=false:=by
 unfold chk at h
 split at h
 ·cases h
 ·cases hv:p.all ARat.valid with
  |false=>rw[hv] at h;cases h
  |true =>
   rw[hv] at h
   cases hz:lastZ (vals p) with
   |false=>rfl
   |true=>rw[hz] at h;cases h
def evalL:List Rat→Rat→Rat
 |[],_=>0
 |a::r,x=>evalL r x*x+a
def derI:Nat→List Rat→List Rat
 |_,[]=>[]
 |i,a::r=>((i:Int):Rat)*a::derI (i+1) r
def deriveL(q:List Rat):List Rat:=trimL (derI 1 (q.drop 1))
theorem derI_len:∀(q:List Rat) (i:Nat),(derI i q).length=q.length
 |[],_=>rfl
 |a::r,i=>by rw[derI,List.length_cons,List.length_cons,derI_len r]
theorem derI_snoc:∀(q:List Rat) (i:Nat) (a:Rat),derI i (q++[a])=derI i q++[(((i+q.length:Nat):Int):Rat)*a]
 |[],i,a=>rfl
 |b::r,i,a=>by
  rw[List.cons_append,derI,derI,derI_snoc r (i+1) a,List.length_cons,List.cons_append,show i+1+r.length=i+(r.length+1) from by omega]
theorem derI_take{p:List ARat}{i:Nat}{v:ARat}(hv:p[i]? = some v)(h:1≤i):derI 1 (((vals p).take (i+1)).drop 1)=derI 1 (((vals p).take i).drop 1)++[((i:Int):Rat)*v.val]:=by
 have h1:=(List.getElem?_eq_some_iff.1 hv).1
 have hm:(vals p)[i]? = some v.val:=by unfold vals;rw[List.getElem?_map,hv];rfl
 have hl:((vals p).take i).length=i:=by unfold vals;simp;omega
 rw[List.take_add_one,hm,List.drop_append_of_le_length (by omega)]
 show derI 1 (((vals p).take i).drop 1++[v.val])=_
 rw[derI_snoc,List.length_drop,hl,show 1+(i-1)=i from by omega]
theorem fl_derI{k:Nat}(hk:k+2≤274877906944):∀(q:List Rat) (i:Nat),i+q.length≤18446744073709551615→Fl k q→Fl 274877906944 (derI i q)
 |[],_,_,_=>fun x hx=>by cases hx
 |a::r,i,hi,h=>by
  intro x hx
  rw[List.length_cons] at hi
  rcases List.mem_cons.1 hx with e|hx
  ·rw[e]
   have h1:=ht_mul ((i:Int):Rat) a
   have h2:=h a (List.mem_cons_self ..)
   have h3:ht ((i:Int):Rat)≤2:=by
    rw[ht_int]
    have:wl (i:Int)≤2:=wl_le (by omega)
    omega
   omega
  ·exact fl_derI hk r (i+1) (by omega) (fun y hy=>h y (List.mem_cons_of_mem _ hy)) x hx
end Go.Proofs.YtboilcfohmmpbaaGreatDoor.Sym
