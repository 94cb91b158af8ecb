/- Lemmas for the statements of this seat. -/
import Derived.Test.YtnjhplhbmapclaaGreatDoorT0
noncomputable section
namespace Go.Proofs.YtnjhplhbmapclaaGreatDoor.Sym.Path
open Go Tryz
set_option maxRecDepth 20000
set_option linter.unusedVariables false
namespace oq
theorem e0(a:ae)(b c:aj)(d:Int)(h1:Cp 46 [a.pv] (.aY [b.pv,c.pv]))(h2:Cp 47 [b.pv] (vI d)):Cp 20 [a.pv] (vI d) :=
 eD func20 78 [1,1] [.q,.h 1 (.pv (.aY [b.pv,c.pv])),.h 1 (.pv (vI d))] (y2 h1 h2)
end oq
namespace k8
theorem e0(a:ae)(b c d:aj)(g:Int)(i:ByteArray)(h1:Cp 46 [a.pv] (.aY [b.pv,c.pv]))(h2:Cp 49 [] d.pv)(h3:Cp 48 [c.pv,d.pv] (vI g))(h4:g=0)(h5:Cp 50 [b.pv] (.str i)):Cp 21 [a.pv] (.str i) :=
 eD func21 90 [1,1,1,1,1] [.q,.h 1 (.pv (.aY [b.pv,c.pv])),dr 4 0 [.none,(.pv d.pv),(.pv (vI g))],.t,.h 1 (.pv (.str i))] (y5 h1 h2 h3 (dO h4) h5)
theorem e1(a:ae)(b c d:aj)(g:Int)(i j:ByteArray)(h1:Cp 46 [a.pv] (.aY [b.pv,c.pv]))(h2:Cp 49 [] d.pv)(h3:Cp 48 [c.pv,d.pv] (vI g))(h4:g≠0)(h5:Cp 50 [b.pv] (.str i))(h6:i.size+(ByteArray.mk #[47]).size<9223372036854775808)(h7:Cp 50 [c.pv] (.str j))(h8:(i++(ByteArray.mk #[47])).size+j.size<9223372036854775808):Cp 21 [a.pv] (.str ((i++(ByteArray.mk #[47]))++j)) :=
 eD func21 93 [1,1,1,1,1,1,1,1] [.q,.h 1 (.pv (.aY [b.pv,c.pv])),dr 4 0 [.none,(.pv d.pv),(.pv (vI g))],.f,dr 6 1 [.none,(.pv (.str i)),(.pv (.str (i++(ByteArray.mk #[47])))),.none,(.pv (.str j)),(.pv (.str ((i++(ByteArray.mk #[47]))++j)))]] (y8 h1 h2 h3 (dE h4) h5 (bI h6) h7 (bI h8))
end k8
namespace kf
theorem e0(a:ae)(b c:aj)(d:Int)(h1:Cp 55 [a.pv] (.aY [b.pv,c.pv]))(h2:Cp 56 [b.pv] (vI d)):Cp 24 [a.pv] (vI d) :=
 eD func24 78 [1,1] [.q,.h 1 (.pv (.aY [b.pv,c.pv])),.h 1 (.pv (vI d))] (y2 h1 h2)
end kf
namespace gA
theorem e0(a:ae)(b c d:aj)(g:Int)(i:ByteArray)(h1:Cp 55 [a.pv] (.aY [b.pv,c.pv]))(h2:Cp 58 [] d.pv)(h3:Cp 57 [c.pv,d.pv] (vI g))(h4:g=0)(h5:Cp 59 [b.pv] (.str i)):Cp 25 [a.pv] (.str i) :=
 eD func25 90 [1,1,1,1,1] [.q,.h 1 (.pv (.aY [b.pv,c.pv])),dr 4 0 [.none,(.pv d.pv),(.pv (vI g))],.t,.h 1 (.pv (.str i))] (y5 h1 h2 h3 (dO h4) h5)
theorem e1(a:ae)(b c d:aj)(g:Int)(i j:ByteArray)(h1:Cp 55 [a.pv] (.aY [b.pv,c.pv]))(h2:Cp 58 [] d.pv)(h3:Cp 57 [c.pv,d.pv] (vI g))(h4:g≠0)(h5:Cp 59 [b.pv] (.str i))(h6:i.size+(ByteArray.mk #[47]).size<9223372036854775808)(h7:Cp 59 [c.pv] (.str j))(h8:(i++(ByteArray.mk #[47])).size+j.size<9223372036854775808):Cp 25 [a.pv] (.str ((i++(ByteArray.mk #[47]))++j)) :=
 eD func25 93 [1,1,1,1,1,1,1,1] [.q,.h 1 (.pv (.aY [b.pv,c.pv])),dr 4 0 [.none,(.pv d.pv),(.pv (vI g))],.f,dr 6 1 [.none,(.pv (.str i)),(.pv (.str (i++(ByteArray.mk #[47])))),.none,(.pv (.str j)),(.pv (.str ((i++(ByteArray.mk #[47]))++j)))]] (y8 h1 h2 h3 (dE h4) h5 (bI h6) h7 (bI h8))
end gA
namespace dp
theorem e0(a:ae)(h1:a.num.length=0)(h2:a.den.length=0):Cp 27 [a.pv] (vB (!a.neg)) :=
 eD func27 84 [1,1,1,1,1,1,1,1] [.q,.aI [.o,.o,(iI (a.num.length:Int)),.o,.o,.o,.o,(iI (a.den.length:Int)),.o,(.dec true)],.t,.q] (y8 (ak ab a.num) (aA h1) (aA h1) (aA h1) (ak ab a.den) (aA h1) (aA h1) (aA h2))
theorem e1(a:ae)(h1:a.num.length=0)(h2:a.den.length≠0):Cp 27 [a.pv] (vB false) :=
 eD func27 105 [1,1,1,1,1,1,1,1,1,1,1,1,1,1,1,1,1,1,1,1] [.q,.aI [.o,.o,(iI (a.num.length:Int)),.o,.o,.o,.o,(iI (a.den.length:Int)),.o,(.dec true)],.f,dr 9 1 [],.aI [.o,.o,(iI (a.num.length:Int)),.o,.o,.skip,.skip,.skip,.skip,(.dec true),.o,.skip,.skip,.skip,.o,.o,.skip,.skip,.skip],.a,.q] (Lr (ak ab a.num) (aA h1) (aA h1) (aA h1) (ak ab a.den) (aA h1) (aA h1) (av h2) (ak ab a.num) (aA h1) (aA h1) (aA h1) (aA h1) (aA h1) (Eq.refl true) (Eq.refl true) (Eq.refl true) (Eq.refl true) (Eq.refl true) (Eq.refl true))
theorem e2(a:ae)(h1:a.num.length≠0)(h2:a.den.length=0):Cp 27 [a.pv] (vB false) :=
 eD func27 105 [1,1,1,1,1,1,1,1,1,1,1,1,1,1,1,1,1,1,1,1] [.q,.aI [.o,.o,(iI (a.num.length:Int)),.o,.o,.skip,.skip,.skip,.skip,(.dec false)],.a,dr 9 1 [],.aI [.o,.o,(iI (a.num.length:Int)),.o,.o,.o,.o,(iI (a.den.length:Int)),.o,(.dec false),.o,.skip,.skip,.skip,(.dec true),.o,.skip,.skip,.skip],.a,.q] (Lr (ak ab a.num) (av h1) (av h1) (av h1) (av h1) (av h1) (ak ab a.num) (av h1) (av h1) (av h1) (ak ab a.den) (av h1) (av h1) (aA h2) (aA h2) (aA h2) (aA h2) (Eq.refl true) (Eq.refl true) (Eq.refl true))
theorem e3(a:ae)(b:Bool)(h1:a.num.length≠0)(h2:a.den.length≠0)(h3:Cp 60 [(⟨false,a.num⟩:aj).pv] (vB b))(h4:b=false):Cp 27 [a.pv] (vB false) :=
 eD func27 105 [1,1,1,1,1,1,1,1,1,1,1,1,1,1,1,1,1,1,1,1,1,1] [.q,.aI [.o,.o,(iI (a.num.length:Int)),.o,.o,.skip,.skip,.skip,.skip,(.dec false)],.a,dr 9 1 [],.aI [.o,.o,(iI (a.num.length:Int)),.o,.o,.o,.o,(iI (a.den.length:Int)),.o,(.dec false),.o,.o,(.pv (vB b)),.o,(.dec false),.o,.skip,.skip,.skip,(.dec true)],.a,.q] (MP (ak ab a.num) (av h1) (av h1) (av h1) (av h1) (av h1) (ak ab a.num) (av h1) (av h1) (av h1) (ak ab a.den) (av h1) (av h1) (av h2) (av h2) h3 (av h2) (av h2) (cF h4) (cF h4) (cF h4) (cF h4))
theorem e4(a:ae)(b c:Bool)(h1:a.num.length≠0)(h2:a.den.length≠0)(h3:Cp 60 [(⟨false,a.num⟩:aj).pv] (vB b))(h4:b=true)(h5:Cp 60 [(⟨false,a.den⟩:aj).pv] (vB c))(h6:c=false):Cp 27 [a.pv] (vB false) :=
 eD func27 105 [1,1,1,1,1,1,1,1,1,1,1,1,1,1,1,1,1,1,1,1,1,1,1,1] [.q,.aI [.o,.o,(iI (a.num.length:Int)),.o,.o,.skip,.skip,.skip,.skip,(.dec false)],.a,dr 9 1 [],.aI [.o,.o,(iI (a.num.length:Int)),.o,.o,.o,.o,(iI (a.den.length:Int)),.o,(.dec false),.o,.o,(.pv (vB b)),.o,(.dec false),.o,.o,(.pv (vB c)),.o,(.dec false)],.t,.q] (MR (ak ab a.num) (av h1) (av h1) (av h1) (av h1) (av h1) (ak ab a.num) (av h1) (av h1) (av h1) (ak ab a.den) (av h1) (av h1) (av h2) (av h2) h3 (av h2) (av h2) (bm h4) (bm h4) h5 (bm h4) (bm h4) (cF h6))
theorem e5(a:ae)(b c:Bool)(d g:aj)(i:Int)(h1:a.num.length≠0)(h2:a.den.length≠0)(h3:Cp 60 [(⟨false,a.num⟩:aj).pv] (vB b))(h4:b=true)(h5:Cp 60 [(⟨false,a.den⟩:aj).pv] (vB c))(h6:c=true)(h7:Cp 61 [(⟨false,a.num⟩:aj).pv,(⟨false,a.den⟩:aj).pv] d.pv)(h8:Cp 49 [] g.pv)(h9:Cp 48 [d.pv,g.pv] (vI i)):Cp 27 [a.pv] (vB (i==0)) :=
 eD func27 108 [1,1,1,1,1,1,1,1,1,1,1,1,1,1,1,1,1,1,1,1,1,1,1,1,1,1,1] [.q,.aI [.o,.o,(iI (a.num.length:Int)),.o,.o,.skip,.skip,.skip,.skip,(.dec false)],.a,dr 9 1 [],.aI [.o,.o,(iI (a.num.length:Int)),.o,.o,.o,.o,(iI (a.den.length:Int)),.o,(.dec false),.o,.o,(.pv (vB b)),.o,(.dec false),.o,.o,(.pv (vB c)),.o,(.dec false)],.f,.aI [.o,.o,(.pv d.pv),(.pv g.pv),(.pv (vI i))]] (Ol (ak ab a.num) (av h1) (av h1) (av h1) (av h1) (av h1) (ak ab a.num) (av h1) (av h1) (av h1) (ak ab a.den) (av h1) (av h1) (av h2) (av h2) h3 (av h2) (av h2) (bm h4) (bm h4) h5 (bm h4) (bm h4) (bm h6) h7 h8 h9)
end dp
namespace bF
theorem e0(a:ae)(h1:a.num.length=0)(h2:a.den.length=0):Cp 28 [a.pv] (vB (!a.neg)) :=
 eD func28 84 [1,1,1,1,1,1,1,1] [.q,.aI [.o,.o,(iI (a.num.length:Int)),.o,.o,.o,.o,(iI (a.den.length:Int)),.o,(.dec true)],.t,.q] (y8 (ak ab a.num) (aA h1) (aA h1) (aA h1) (ak ab a.den) (aA h1) (aA h1) (aA h2))
theorem e3(a:ae)(b:Bool)(h1:a.num.length=0)(h2:a.den.length≠0)(h3:Cp 62 [aa a.num] (vB b))(h4:b=false):Cp 28 [a.pv] (vB false) :=
 eD func28 87 [1,1,1,1,1,1,1,1,1,1,1,1,1,1,1,1,1,1,1,1,1,1,1] [.q,.aI [.o,.o,(iI (a.num.length:Int)),.o,.o,.o,.o,(iI (a.den.length:Int)),.o,(.dec true)],.f,.aI [.o,.o,(.pv (vB b)),.o,.skip,.skip,.skip,(.dec false),.o,.skip,.skip,.skip,.skip,.skip,.skip,.skip,.skip,.skip,.skip]] (MQ (ak ab a.num) (aA h1) (aA h1) (aA h1) (ak ab a.den) (aA h1) (aA h1) (av h2) h3 h4 h4 h4 h4 (Eq.refl false) (Eq.refl false) (Eq.refl false) (Eq.refl false) (Eq.refl false) (Eq.refl false) (Eq.refl false) (Eq.refl false) (Eq.refl false) (Eq.refl false))
theorem e4(a:ae)(b c:Bool)(d g:aj)(i:Int)(h1:a.num.length≠0)(h2:Cp 62 [aa a.num] (vB b))(h3:b=true)(h4:Cp 62 [aa a.den] (vB c))(h5:c=true)(h6:Cp 63 [(⟨false,a.num⟩:aj).pv,(⟨false,a.den⟩:aj).pv] d.pv)(h7:Cp 58 [] g.pv)(h8:Cp 57 [d.pv,g.pv] (vI i)):Cp 28 [a.pv] (vB (i==0)) :=
 eD func28 87 [1,1,1,1,1,1,1,1,1,1,1,1,1,1,1,1,1,1,1,1,1,1,1,1,1,1] [.q,.aI [.o,.o,(iI (a.num.length:Int)),.o,.o,.skip,.skip,.skip,.skip,(.dec false)],.a,.aI [.o,.o,(.pv (vB b)),.o,.o,.o,(.pv (vB c)),(.dec true),.o,.o,.o,.o,.o,.o,.o,(.pv d.pv),(.pv g.pv),(.pv (vI i)),.o,(.dec true)]] (Ok (ak ab a.num) (av h1) (av h1) (av h1) (av h1) (av h1) h2 h3 h3 h3 h4 h3 h5 h5 h5 h5 h5 h5 h5 h6 h5 h7 h5 h8 h5 h5)
theorem e5(a:ae)(b c:Bool)(h1:a.num.length≠0)(h2:Cp 62 [aa a.num] (vB b))(h3:b=true)(h4:Cp 62 [aa a.den] (vB c))(h5:c=false):Cp 28 [a.pv] (vB false) :=
 eD func28 87 [1,1,1,1,1,1,1,1,1,1,1,1,1,1,1,1,1,1,1,1,1,1,1] [.q,.aI [.o,.o,(iI (a.num.length:Int)),.o,.o,.skip,.skip,.skip,.skip,(.dec false)],.a,.aI [.o,.o,(.pv (vB b)),.o,.o,.o,(.pv (vB c)),(.dec true),.o,.skip,.skip,.skip,.skip,.skip,.skip,.skip,.skip,.skip,.skip,(.dec false)]] (MQ (ak ab a.num) (av h1) (av h1) (av h1) (av h1) (av h1) h2 h3 h3 h3 h4 h3 h5 h5 h5 h5 h5 h5 h5 h5 h5 h5 h5)
theorem e6(a:ae)(b:Bool)(h1:a.num.length≠0)(h2:Cp 62 [aa a.num] (vB b))(h3:b=false):Cp 28 [a.pv] (vB false) :=
 eD func28 87 [1,1,1,1,1,1,1,1,1,1,1,1,1,1,1,1,1,1,1,1,1] [.q,.aI [.o,.o,(iI (a.num.length:Int)),.o,.o,.skip,.skip,.skip,.skip,(.dec false)],.a,.aI [.o,.o,(.pv (vB b)),.o,.skip,.skip,.skip,(.dec false),.o,.skip,.skip,.skip,.skip,.skip,.skip,.skip,.skip,.skip,.skip]] (MO (ak ab a.num) (av h1) (av h1) (av h1) (av h1) (av h1) h2 h3 h3 h3 h3 (Eq.refl false) (Eq.refl false) (Eq.refl false) (Eq.refl false) (Eq.refl false) (Eq.refl false) (Eq.refl false) (Eq.refl false) (Eq.refl false) (Eq.refl false))
end bF
namespace pM
theorem e0(a b:ae)(c d g i j k l m:aj)(n:ae)(h1:Cp 46 [a.pv] (.aY [c.pv,d.pv]))(h2:Cp 46 [b.pv] (.aY [g.pv,i.pv]))(h3:Cp 67 [c.pv,i.pv] j.pv)(h4:Cp 67 [g.pv,d.pv] k.pv)(h5:Cp 66 [j.pv,k.pv] l.pv)(h6:Cp 67 [d.pv,i.pv] m.pv)(h7:Cp 65 [l.pv,m.pv] n.pv):Cp 30 [a.pv,b.pv] n.pv :=
 eD func30 84 [1,1,1,1,1,1,1] [.q,.h 1 (.pv (.aY [c.pv,d.pv])),.h 1 (.pv (.aY [g.pv,i.pv])),dr 11 1 [.none,.none,(.pv j.pv),.none,.none,(.pv k.pv),(.pv l.pv),.none,.none,(.pv m.pv),(.pv n.pv)]] (y7 h1 h2 h3 h4 h5 h6 h7)
end pM
namespace kO
theorem e0(a b:ae)(c d g i j k l m:aj)(n:ae)(h1:Cp 55 [a.pv] (.aY [c.pv,d.pv]))(h2:Cp 55 [b.pv] (.aY [g.pv,i.pv]))(h3:Cp 70 [c.pv,i.pv] j.pv)(h4:Cp 70 [g.pv,d.pv] k.pv)(h5:Cp 69 [j.pv,k.pv] l.pv)(h6:Cp 70 [d.pv,i.pv] m.pv)(h7:Cp 68 [l.pv,m.pv] n.pv):Cp 31 [a.pv,b.pv] n.pv :=
 eD func31 84 [1,1,1,1,1,1,1] [.q,.h 1 (.pv (.aY [c.pv,d.pv])),.h 1 (.pv (.aY [g.pv,i.pv])),dr 11 1 [.none,.none,(.pv j.pv),.none,.none,(.pv k.pv),(.pv l.pv),.none,.none,(.pv m.pv),(.pv n.pv)]] (y7 h1 h2 h3 h4 h5 h6 h7)
end kO
namespace lx
theorem e0(n:Int)(of a:aj)(b:ae)(h1:Cp 72 [vI n] of.pv)(h2:Cp 58 [] a.pv)(h3:Cp 68 [of.pv,a.pv] b.pv):Cp 34 [vI n] b.pv :=
 eD func34 72 [1,1,1] [.q,.aI [.o,(.pv of.pv),(.pv a.pv),(.pv b.pv)]] (y3 h1 h2 h3)
end lx
namespace pN
theorem e0(a b:ae)(c d g i j k:aj)(l:Int)(h1:Cp 46 [a.pv] (.aY [c.pv,d.pv]))(h2:Cp 46 [b.pv] (.aY [g.pv,i.pv]))(h3:Cp 67 [c.pv,i.pv] j.pv)(h4:Cp 67 [g.pv,d.pv] k.pv)(h5:Cp 48 [j.pv,k.pv] (vI l)):Cp 38 [a.pv,b.pv] (vI l) :=
 eD func38 84 [1,1,1,1,1] [.q,.h 1 (.pv (.aY [c.pv,d.pv])),.h 1 (.pv (.aY [g.pv,i.pv])),dr 7 1 [.none,.none,(.pv j.pv),.none,.none,(.pv k.pv),(.pv (vI l))]] (y5 h1 h2 h3 h4 h5)
end pN
namespace rH
theorem e0(n:Int)(of a:aj)(b:ae)(h1:Cp 73 [vI n] of.pv)(h2:Cp 49 [] a.pv)(h3:Cp 65 [of.pv,a.pv] b.pv):Cp 39 [vI n] b.pv :=
 eD func39 72 [1,1,1] [.q,.aI [.o,(.pv of.pv),(.pv a.pv),(.pv b.pv)]] (y3 h1 h2 h3)
end rH
namespace pO
theorem e0(a b:ae)(c d g i j k:aj)(l:ae)(m:Option Int)(h1:Cp 46 [a.pv] (.aY [c.pv,d.pv]))(h2:Cp 46 [b.pv] (.aY [g.pv,i.pv]))(h3:Cp 67 [c.pv,i.pv] j.pv)(h4:Cp 67 [d.pv,g.pv] k.pv)(h5:Cp 74 [j.pv,k.pv] (.aY [l.pv,cX m])):Cp 41 [a.pv,b.pv] (.aY [l.pv,cX m]) :=
 eD func41 84 [1,1,1,1,1] [.q,.h 1 (.pv (.aY [c.pv,d.pv])),.h 1 (.pv (.aY [g.pv,i.pv])),dr 9 2 [.none,.none,(.pv j.pv),.none,.none,(.pv k.pv),(.pv (.aY [l.pv,cX m]))]] (y5 h1 h2 h3 h4 h5)
end pO
namespace pP
theorem e0(a b c d:ae)(h1:Cp 45 [b.pv] c.pv)(h2:Cp 30 [a.pv,c.pv] d.pv):Cp 42 [a.pv,b.pv] d.pv :=
 eD func42 72 [1,1] [.q,dr 4 1 [.none,.none,(.pv c.pv),(.pv d.pv)]] (y2 h1 h2)
end pP
namespace pQ
theorem e0(a:ae)(b c d:aj)(g:ae)(h1:Cp 46 [a.pv] (.aY [b.pv,c.pv]))(h2:Cp 76 [b.pv] d.pv)(h3:Cp 65 [d.pv,c.pv] g.pv):Cp 45 [a.pv] g.pv :=
 eD func45 78 [1,1,1] [.q,.h 1 (.pv (.aY [b.pv,c.pv])),dr 4 1 [.none,(.pv d.pv),.none,(.pv g.pv)]] (y3 h1 h2 h3)
end pQ
namespace ij
@[reducible] def fn:Func:=Tryz.f46
theorem e0(a:ae)(b:Bool)(c:aj)(h1:Cp 27 [a.pv] (vB b))(h2:b=false)(h3:Cp 49 [] c.pv):Cp 46 [a.pv] (.aY [(⟨false,[]⟩:aj).pv,c.pv]) :=
 eD func46 84 [1,1,1,1,1,1,1] [.q,.aI [.o,(.pv (vB b)),.o,.o,.skip,.skip,.skip,.skip,(.dec true)],.a,.h 1 (.pv c.pv)] (y7 h1 (cF h2) (cF h2) (cF h2) (cF h2) (cF h2) h3)
theorem e1(a:ae)(b:Bool)(c:aj)(h1:Cp 27 [a.pv] (vB b))(h2:b=true)(h3:a.num.length=0)(h4:Cp 49 [] c.pv):Cp 46 [a.pv] (.aY [(⟨false,[]⟩:aj).pv,c.pv]) :=
 eD func46 84 [1,1,1,1,1,1,1,1,1] [.q,.aI [.o,(.pv (vB b)),.o,.o,.o,.o,(iI (a.num.length:Int)),.o,(.dec false)],.t,.h 1 (.pv c.pv)] (y9 h1 (bm h2) (bm h2) (bm h2) (ak ab a.num) (bm h2) (bm h2) (aA h3) h4)
theorem Fh(a:ae):BA bh uX fn.ntmps (eV (focus [0,2,0,0,2,1,2,0] [.code (az fn)])) (sa (eV (focus [0,2,0,0,2,1,2,0] [.code (az fn)])) []) (tJ (eV (focus [0,2,0,0,2,1,2,0] [.code (az fn)])) []) [.none,.none,.none,.none,.none,(.kV (a.num:List UInt32).length 0 ((a.num:List UInt32).map ab)),.none,.none] (Iv uX fn.ntmps (eV (focus [0,2,0,0,2,1,2,0] [.code (az fn)])) [] ⟨[(1,(.ptr 1 0)),(2,(.ptr 2 0)),(3,(.ptr 3 0))],[(3,(.lit [(eB false),(.pv (.list []))])),(2,(.lit [(eB false),(.pv (.list []))])),(1,(.lit [(eB a.neg),(.pv (aa a.num)),(.pv (aa a.den))]))]⟩)=BB bh uX fn.ntmps (eV (focus [0,2,0,0,2,1,2,0] [.code (az fn)])) (sa (eV (focus [0,2,0,0,2,1,2,0] [.code (az fn)])) []) (tJ (eV (focus [0,2,0,0,2,1,2,0] [.code (az fn)])) []) [.none,.none,.none,.none,.none,(.kV (a.num:List UInt32).length 0 ((a.num:List UInt32).map ab)),.none,.none] (Iv uX fn.ntmps (eV (focus [0,2,0,0,2,1,2,0] [.code (az fn)])) [] ⟨[(1,(.ptr 1 0)),(2,(.ptr 2 0)),(3,(.ptr 3 0))],[(3,(.lit [(eB false),(.pv (.list []))])),(2,(.lit [(eB false),(.pv (.list []))])),(1,(.lit [(eB a.neg),(.pv (aa a.num)),(.pv (aa a.den))]))]⟩):=by kernel_rfl
theorem Fi(a:ae):BA bh uX fn.ntmps (eV (focus [0,2,0,0,2,1,2,0,2,0] [.code (az fn)])) (sa (eV (focus [0,2,0,0,2,1,2,0,2,0] [.code (az fn)])) []) (tJ (eV (focus [0,2,0,0,2,1,2,0,2,0] [.code (az fn)])) []) [.none,.none,.none,.none,(.kV (a.den:List UInt32).length 0 ((a.den:List UInt32).map ab)),.none,.none,.none] (Iv uX fn.ntmps (eV (focus [0,2,0,0,2,1,2,0,2,0] [.code (az fn)])) [] ⟨[(1,(.ptr 1 0)),(2,(.ptr 2 0)),(3,(.ptr 3 0))],[(3,(.lit [(eB false),(.pv (.list []))])),(2,(.lit [(eB a.neg),(.pv (aa a.num))])),(1,(.lit [(eB a.neg),(.pv (aa a.num)),(.pv (aa a.den))]))]⟩)=BB bh uX fn.ntmps (eV (focus [0,2,0,0,2,1,2,0,2,0] [.code (az fn)])) (sa (eV (focus [0,2,0,0,2,1,2,0,2,0] [.code (az fn)])) []) (tJ (eV (focus [0,2,0,0,2,1,2,0,2,0] [.code (az fn)])) []) [.none,.none,.none,.none,(.kV (a.den:List UInt32).length 0 ((a.den:List UInt32).map ab)),.none,.none,.none] (Iv uX fn.ntmps (eV (focus [0,2,0,0,2,1,2,0,2,0] [.code (az fn)])) [] ⟨[(1,(.ptr 1 0)),(2,(.ptr 2 0)),(3,(.ptr 3 0))],[(3,(.lit [(eB false),(.pv (.list []))])),(2,(.lit [(eB a.neg),(.pv (aa a.num))])),(1,(.lit [(eB a.neg),(.pv (aa a.num)),(.pv (aa a.den))]))]⟩):=by kernel_rfl
theorem e2(a:ae)(b:Bool)(h1:Cp 27 [a.pv] (vB b))(h2:b=true)(h3:a.num.length≠0)(h4:(([]:Ws)++a.num:Ws).length*4≤140737488355328)(h5:(([]:Ws)++a.den:Ws).length*4≤140737488355328):Cp 46 [a.pv] (.aY [(⟨a.neg,a.num⟩:aj).pv,(⟨false,a.den⟩:aj).pv]) :=
 eD func46 93 [1,1,1,1,1,1,1,1,6,3,1,6,3,1] [.q,.aI [.o,(.pv (vB b)),.o,.o,.o,.o,(iI (a.num.length:Int)),.o,(.dec false)],.f,.aB [1,2,3],.any [] [.none,.none,.none,.none,.none,(.kV (a.num:Ws).length 0 ((a.num:Ws).map ab)),.none,.none],.aB [1,2,3],.any [] [.none,.none,.none,.none,(.kV (a.den:Ws).length 0 ((a.den:Ws).map ab)),.none,.none,.none]] (Ff h1 (bm h2) (bm h2) (bm h2) (ak ab a.num) (bm h2) (bm h2) (av h3) (qT aF ([]:Ws) (a.num:Ws) 4 (Eq.refl ([]:Ws).length) h4 rfl) (cM aF (a.num:Ws) (Eq.refl (a.num:Ws).length)) (Fh a) (qT aF ([]:Ws) (a.den:Ws) 4 (Eq.refl ([]:Ws).length) h5 rfl) (cM aF (a.den:Ws) (Eq.refl (a.den:Ws).length)) (Fi a))
end ij
namespace pR
theorem e0(of:aj)(h1:Cp 73 [vI 1] of.pv):Cp 49 [] of.pv :=
 eD func49 72 [1] [.q,.h 0 (.pv of.pv)] (y1 h1)
end pR
namespace dQ
theorem e0(a:ae)(b:Bool)(c:aj)(h1:Cp 28 [a.pv] (vB b))(h2:b=false)(h3:Cp 58 [] c.pv):Cp 55 [a.pv] (.aY [(⟨false,[]⟩:aj).pv,c.pv]) :=
 eD func55 84 [1,1,1,1,1,1,1] [.q,.aI [.o,(.pv (vB b)),.o,.o,.skip,.skip,.skip,.skip,(.dec true)],.a,.h 1 (.pv c.pv)] (y7 h1 (cF h2) (cF h2) (cF h2) (cF h2) (cF h2) h3)
theorem e1(a:ae)(b:Bool)(c:aj)(h1:Cp 28 [a.pv] (vB b))(h2:b=true)(h3:a.num.length=0)(h4:Cp 58 [] c.pv):Cp 55 [a.pv] (.aY [(⟨false,[]⟩:aj).pv,c.pv]) :=
 eD func55 84 [1,1,1,1,1,1,1,1,1] [.q,.aI [.o,(.pv (vB b)),.o,.o,.o,.o,(iI (a.num.length:Int)),.o,(.dec false)],.t,.h 1 (.pv c.pv)] (y9 h1 (bm h2) (bm h2) (bm h2) (ak ab a.num) (bm h2) (bm h2) (aA h3) h4)
theorem e2(a:ae)(b:Bool)(h1:Cp 28 [a.pv] (vB b))(h2:b=true)(h3:a.num.length≠0):Cp 55 [a.pv] (.aY [(⟨a.neg,a.num⟩:aj).pv,(⟨false,a.den⟩:aj).pv]) :=
 eD func55 87 [1,1,1,1,1,1,1,1] [.q,.aI [.o,(.pv (vB b)),.o,.o,.o,.o,(iI (a.num.length:Int)),.o,(.dec false)],.f,dr 9 1 []] (y8 h1 (bm h2) (bm h2) (bm h2) (ak ab a.num) (bm h2) (bm h2) (av h3))
end dQ
namespace kP
theorem e0(of:aj)(h1:Cp 72 [vI 1] of.pv):Cp 58 [] of.pv :=
 eD func58 72 [1] [.q,.h 0 (.pv of.pv)] (y1 h1)
end kP
namespace fV
theorem e0(m:Ws)(k:Nat)(v:UInt32)(h1:0<m.length)(h2:ar ((m.length:Int)-1))(h3:((m.length:Int)-1)=(k:Int))(h4:m[k]? = some v):Cp 62 [aa m] (vB ((v.toNat:Int) != 0)) :=
 eD func62 72 [1,1,1,1,1,1,1,1,3,1,1,1] [.q,.aI [.o,(iI (m.length:Int)),.o,.o,.o,.o,(iI (m.length:Int)),(iI ((m.length:Int)-1)),(.row k (ab v)),.o,.o,(.dec true)]] (Ev (ak ab m) (af h1) (af h1) (af h1) (ak ab m) (af h1) (aG h2) (af h1) (bd ab h3 h4) (af h1) (af h1) (af h1))
theorem e1(m:Ws)(h1:m.length≤0):Cp 62 [aa m] (vB false) :=
 eD func62 72 [1,1,1,1,1,1,1,1,1] [.q,.aI [.o,(iI (m.length:Int)),.o,.o,.skip,.skip,.skip,.skip,.skip,.skip,.skip,(.dec false)]] (y9 (ak ab m) (an h1) (an h1) (an h1) (an h1) (an h1) (an h1) (an h1) (an h1))
end fV
namespace eO
theorem e0(n d:aj)(a:Int)(h1:Cp 47 [n.pv] (vI a))(h2:a=0):Cp 65 [n.pv,d.pv] ((⟨false,[],[]⟩:ae).pv) :=
 eD func65 84 [1,1] [.q,.h 1 (.pv (vI a)),.t,.q] (y2 h1 (dO h2))
theorem e1(n d:aj)(a b:Int)(c g i:aj)(j:Int)(k l m:aj)(o:Option Int)(p s:aj)(u:Option Int)(h1:Cp 47 [n.pv] (vI a))(h2:a≠0)(h3:Cp 47 [d.pv] (vI b))(h4:b<0)(h5:Cp 76 [n.pv] c.pv)(h6:Cp 76 [d.pv] g.pv)(h7:Cp 61 [c.pv,g.pv] i.pv)(h8:Cp 47 [c.pv] (vI j))(h9:j<0)(cL:Cp 76 [c.pv] k.pv)(ec:Cp 94 [k.pv,i.pv] (.aY [l.pv,m.pv,cX o]))(gp:Cp 94 [g.pv,i.pv] (.aY [p.pv,s.pv,cX u])):Cp 65 [n.pv,d.pv] ((⟨(decide (j<0)),l.bw,p.bw⟩:ae).pv) :=
 eD func65 141 [1,1,1,1,1,1,1,1,1,1,1,1] [.q,.h 1 (.pv (vI a)),.f,.h 1 (.pv (vI b)),.t,dr 4 2 [.none,(.pv c.pv),.none,(.pv g.pv)],.h 2 (.pv i.pv),.h 1 (.pv (vI j)),.q,.t,.h 1 (.pv k.pv),.h 2 (.pv (.aY [l.pv,m.pv,cX o])),.h 2 (.pv (.aY [p.pv,s.pv,cX u])),.q] (Ev h1 (dE h2) h3 (cA h4) h5 h6 h7 h8 (cA h9) cL ec gp)
theorem e2(n d:aj)(a b:Int)(c g i:aj)(j:Int)(k l:aj)(m:Option Int)(o p:aj)(s:Option Int)(h1:Cp 47 [n.pv] (vI a))(h2:a≠0)(h3:Cp 47 [d.pv] (vI b))(h4:b<0)(h5:Cp 76 [n.pv] c.pv)(h6:Cp 76 [d.pv] g.pv)(h7:Cp 61 [c.pv,g.pv] i.pv)(h8:Cp 47 [c.pv] (vI j))(h9:0≤j)(cL:Cp 94 [c.pv,i.pv] (.aY [k.pv,l.pv,cX m]))(ec:Cp 94 [g.pv,i.pv] (.aY [o.pv,p.pv,cX s])):Cp 65 [n.pv,d.pv] ((⟨(decide (j<0)),k.bw,o.bw⟩:ae).pv) :=
 eD func65 141 [1,1,1,1,1,1,1,1,1,1,1] [.q,.h 1 (.pv (vI a)),.f,.h 1 (.pv (vI b)),.t,dr 4 2 [.none,(.pv c.pv),.none,(.pv g.pv)],.h 2 (.pv i.pv),.h 1 (.pv (vI j)),.q,.f,.h 2 (.pv (.aY [k.pv,l.pv,cX m])),.h 2 (.pv (.aY [o.pv,p.pv,cX s])),.q] (xZ h1 (dE h2) h3 (cA h4) h5 h6 h7 h8 (cY h9) cL ec)
theorem e3(n d:aj)(a b:Int)(c:aj)(g:Int)(i j k:aj)(l:Option Int)(m o:aj)(p:Option Int)(h1:Cp 47 [n.pv] (vI a))(h2:a≠0)(h3:Cp 47 [d.pv] (vI b))(h4:0≤b)(h5:Cp 61 [n.pv,d.pv] c.pv)(h6:Cp 47 [n.pv] (vI g))(h7:g<0)(h8:Cp 76 [n.pv] i.pv)(h9:Cp 94 [i.pv,c.pv] (.aY [j.pv,k.pv,cX l]))(cL:Cp 94 [d.pv,c.pv] (.aY [m.pv,o.pv,cX p])):Cp 65 [n.pv,d.pv] ((⟨(decide (g<0)),j.bw,m.bw⟩:ae).pv) :=
 eD func65 141 [1,1,1,1,1,1,1,1,1,1] [.q,.h 1 (.pv (vI a)),.f,.h 1 (.pv (vI b)),.f,.h 2 (.pv c.pv),.h 1 (.pv (vI g)),.q,.t,.h 1 (.pv i.pv),.h 2 (.pv (.aY [j.pv,k.pv,cX l])),.h 2 (.pv (.aY [m.pv,o.pv,cX p])),.q] (Eu h1 (dE h2) h3 (cY h4) h5 h6 (cA h7) h8 h9 cL)
theorem e4(n d:aj)(a b:Int)(c:aj)(g:Int)(i j:aj)(k:Option Int)(l m:aj)(o:Option Int)(h1:Cp 47 [n.pv] (vI a))(h2:a≠0)(h3:Cp 47 [d.pv] (vI b))(h4:0≤b)(h5:Cp 61 [n.pv,d.pv] c.pv)(h6:Cp 47 [n.pv] (vI g))(h7:0≤g)(h8:Cp 94 [n.pv,c.pv] (.aY [i.pv,j.pv,cX k]))(h9:Cp 94 [d.pv,c.pv] (.aY [l.pv,m.pv,cX o])):Cp 65 [n.pv,d.pv] ((⟨(decide (g<0)),i.bw,l.bw⟩:ae).pv) :=
 eD func65 141 [1,1,1,1,1,1,1,1,1] [.q,.h 1 (.pv (vI a)),.f,.h 1 (.pv (vI b)),.f,.h 2 (.pv c.pv),.h 1 (.pv (vI g)),.q,.f,.h 2 (.pv (.aY [i.pv,j.pv,cX k])),.h 2 (.pv (.aY [l.pv,m.pv,cX o])),.q] (y9 h1 (dE h2) h3 (cY h4) h5 h6 (cY h7) h8 h9)
end eO
namespace eu
theorem e0(n d:aj)(a:Int)(h1:Cp 56 [n.pv] (vI a))(h2:a=0):Cp 68 [n.pv,d.pv] ((⟨false,[],[]⟩:ae).pv) :=
 eD func68 84 [1,1] [.q,.h 1 (.pv (vI a)),.t,.q] (y2 h1 (dO h2))
theorem e1(n d:aj)(a b:Int)(c g i j k:aj)(l:Int)(m o:aj)(p:Int)(h1:Cp 56 [n.pv] (vI a))(h2:a≠0)(h3:Cp 56 [d.pv] (vI b))(h4:b<0)(h5:Cp 98 [n.pv] c.pv)(h6:Cp 98 [d.pv] g.pv)(h7:Cp 63 [c.pv,g.pv] i.pv)(h8:Cp 99 [c.pv,i.pv] (.aY [j.pv,k.pv,vI l]))(h9:Cp 99 [g.pv,i.pv] (.aY [m.pv,o.pv,vI p])):Cp 68 [n.pv,d.pv] ((⟨j.neg,j.bw,m.bw⟩:ae).pv) :=
 eD func68 120 [1,1,1,1,1,1,1,1,1] [.q,.h 1 (.pv (vI a)),.f,.h 1 (.pv (vI b)),.t,dr 4 2 [.none,(.pv c.pv),.none,(.pv g.pv)],.h 2 (.pv i.pv),.h 2 (.pv (.aY [j.pv,k.pv,vI l])),.h 2 (.pv (.aY [m.pv,o.pv,vI p])),.q] (y9 h1 (dE h2) h3 (cA h4) h5 h6 h7 h8 h9)
theorem e2(n d:aj)(a b:Int)(c g i:aj)(j:Int)(k l:aj)(m:Int)(h1:Cp 56 [n.pv] (vI a))(h2:a≠0)(h3:Cp 56 [d.pv] (vI b))(h4:0≤b)(h5:Cp 63 [n.pv,d.pv] c.pv)(h6:Cp 99 [n.pv,c.pv] (.aY [g.pv,i.pv,vI j]))(h7:Cp 99 [d.pv,c.pv] (.aY [k.pv,l.pv,vI m])):Cp 68 [n.pv,d.pv] ((⟨g.neg,g.bw,k.bw⟩:ae).pv) :=
 eD func68 120 [1,1,1,1,1,1,1] [.q,.h 1 (.pv (vI a)),.f,.h 1 (.pv (vI b)),.f,.h 2 (.pv c.pv),.h 2 (.pv (.aY [g.pv,i.pv,vI j])),.h 2 (.pv (.aY [k.pv,l.pv,vI m])),.q] (y7 h1 (dE h2) h3 (cY h4) h5 h6 h7)
end eu
namespace pS
theorem e0(a b:ae)(c d g i j k:aj)(l:ae)(h1:Cp 46 [a.pv] (.aY [c.pv,d.pv]))(h2:Cp 46 [b.pv] (.aY [g.pv,i.pv]))(h3:Cp 67 [c.pv,g.pv] j.pv)(h4:Cp 67 [d.pv,i.pv] k.pv)(h5:Cp 65 [j.pv,k.pv] l.pv):Cp 71 [a.pv,b.pv] l.pv :=
 eD func71 84 [1,1,1,1,1] [.q,.h 1 (.pv (.aY [c.pv,d.pv])),.h 1 (.pv (.aY [g.pv,i.pv])),dr 7 1 [.none,.none,(.pv j.pv),.none,.none,(.pv k.pv),(.pv l.pv)]] (y5 h1 h2 h3 h4 h5)
end pS
namespace ot
theorem e1(n d:aj)(a:Int)(b:ae)(h1:Cp 47 [d.pv] (vI a))(h2:a≠0)(h3:Cp 65 [n.pv,d.pv] b.pv):Cp 74 [n.pv,d.pv] (.aY [b.pv,.bD]) :=
 eD func74 87 [1,1,1] [.q,.h 1 (.pv (vI a)),.f,.h 2 (.pv b.pv)] (y3 h1 (dE h2) h3)
end ot
namespace cH
@[reducible] def fn:Func:=Tryz.f6
def bg:List dB:=focus [0,2,0,0,2,0,2,1,2,0,0,2,1,2,0,2,0,0,2,0,0] [.code (az fn)]
def inv1(p:List ae)(sC:List ByteArray)(wF:Int):St:=⟨[(0,(.pv (ah p))),(5,(.row 48 0 sC.length 1)),(6,(eI wF))],[(48,(.pure ((sC:List ByteArray).map db).flatten))]⟩
@[reducible] def ag(p:List ae)(sC:List ByteArray)(wF:Int)(r:PV):Prop:=L bh fn bg (inv1 p sC wF) r
theorem e0(p:Rs)(h1:Cp 9 [ah p] .bD)(h2:p.length=0):Cp 6 [ah p] (.aY [(.str (ByteArray.mk #[48])),.bD]) :=
 eD func6 105 [1,1,1] [.q,.h 1 (.pv .bD),.q,.a,.h 1 (iI (p.length:Int)),.t,.q] (y3 h1 (ak ae.cells p) (aA h2))
theorem e1(p:Rs){r:PV}(h1:Cp 9 [ah p] .bD)(h2:p.length≠0)(h3:ar ((p.length:Int)-1))(hL:ag p [] ((p.length:Int)-1) r):Cp 6 [ah p] r :=
 eG func6 123 [1,1,1,1,1] [.q,.h 1 (.pv .bD),.q,.a,.h 1 (iI (p.length:Int)),.f,.h 0 .nil,.mY 5 48 1,.aI [.o,(iI (p.length:Int)),(iI ((p.length:Int)-1))],.aB [0,5,6]] (y5 h1 (ak ae.cells p) (av h2) (ak ae.cells p) (aG h3)) hL
theorem e2(p:Rs)(b:Int)(h1:Cp 9 [ah p] (.iface 55 (vI b))):Cp 6 [ah p] (.aY [(.str (ByteArray.mk #[])),(.iface 55 (vI b))]) :=
 eD func6 90 [1] [.q,.h 1 (.pv (.iface 55 (vI b))),.q,.a,.q] (y1 h1)
theorem l10(p:Rs)(b:List ByteArray)(c:Int)(k:Nat)(v:ae)(d:Int){r:PV}(h1:0≤c)(h2:c=(k:Int))(h3:p[k]? = some v)(h4:Cp 20 [v.pv] (vI d))(h5:d=0)(h6:ar (c-1))(hL:ag p b (c-1) r):ag p b c r :=
 lG 171 [1,3,1,1,1] [.a,.q,.t,.aI [.o,.o,(.row k (ae.cells v)),.o,(.pv (vI d))],.t,.h 1 (iI (c-1)),.aB [0,5,6]] (y5 (di h1) (bd ae.cells h2 h3) h4 (dO h5) (aG h6)) hL
theorem cW(p:Rs)(b:List ByteArray)(c:Int)(k:Nat)(v:ae)(d:Int)(k1:Nat)(v1:ae)(g i:ByteArray){r:PV}(h1:0≤c)(h2:c=(k:Int))(h3:p[k]? = some v)(h4:Cp 20 [v.pv] (vI d))(h5:d≠0)(h6:c=(k1:Int))(h7:p[k1]? = some v1)(h8:Cp 21 [v1.pv] (.str g))(h9:0<c)(cL:g.size+(ByteArray.mk #[32,120]).size<9223372036854775808)(ec:1<c)(gp:Cp 22 [vI c] (.str i))(jz:(ByteArray.mk #[94]).size+i.size<9223372036854775808)(mG:(g++(ByteArray.mk #[32,120])).size+((ByteArray.mk #[94])++i).size<9223372036854775808)(se:((b++[((g++(ByteArray.mk #[32,120]))++((ByteArray.mk #[94])++i))]):List ByteArray).length*16≤140737488355328)(vY:ar (c-1))(hL:ag p (b++[((g++(ByteArray.mk #[32,120]))++((ByteArray.mk #[94])++i))]) (c-1) r):ag p b c r :=
 lG 207 [1,3,1,1,3,1,1,1,1,1,1,1,6,1] [.a,.q,.t,.aI [.o,.o,(.row k (ae.cells v)),.o,(.pv (vI d))],.f,.aI [.o,.o,(.row k1 (ae.cells v1)),.o,(.pv (.str g))],.q,.t,.h 1 (.pv (.str (g++(ByteArray.mk #[32,120])))),.q,.t,.aI [.o,.o,(.pv (.str i)),(.pv (.str ((ByteArray.mk #[94])++i))),(.pv (.str ((g++(ByteArray.mk #[32,120]))++((ByteArray.mk #[94])++i))))],.h 3 (.app ((b++[((g++(ByteArray.mk #[32,120]))++((ByteArray.mk #[94])++i))]):List ByteArray).length (((b++[((g++(ByteArray.mk #[32,120]))++((ByteArray.mk #[94])++i))]):List ByteArray).map db).flatten),.h 1 (iI (c-1)),.aB [0,5,6],.drop [47]] (Ff (di h1) (bd ae.cells h2 h3) h4 (dE h5) (bd ae.cells h6 h7) h8 (cA h9) (bI cL) (cA ec) gp (bI jz) (bI mG) (k4 qR (b:List ByteArray) ([((g++(ByteArray.mk #[32,120]))++((ByteArray.mk #[94])++i))]:List ByteArray) 16 (Eq.refl (b:List ByteArray).length) (Eq.refl ([((g++(ByteArray.mk #[32,120]))++((ByteArray.mk #[94])++i))]:List ByteArray).length) se rfl) (aG vY)) hL
theorem mD(p:Rs)(b:List ByteArray)(c:Int)(k:Nat)(v:ae)(d:Int)(k1:Nat)(v1:ae)(g:ByteArray){r:PV}(h1:0≤c)(h2:c=(k:Int))(h3:p[k]? = some v)(h4:Cp 20 [v.pv] (vI d))(h5:d≠0)(h6:c=(k1:Int))(h7:p[k1]? = some v1)(h8:Cp 21 [v1.pv] (.str g))(h9:0<c)(cL:g.size+(ByteArray.mk #[32,120]).size<9223372036854775808)(ec:c≤1)(gp:((b++[(g++(ByteArray.mk #[32,120]))]):List ByteArray).length*16≤140737488355328)(jz:ar (c-1))(hL:ag p (b++[(g++(ByteArray.mk #[32,120]))]) (c-1) r):ag p b c r :=
 lG 207 [1,3,1,1,3,1,1,1,1,6,1] [.a,.q,.t,.aI [.o,.o,(.row k (ae.cells v)),.o,(.pv (vI d))],.f,.aI [.o,.o,(.row k1 (ae.cells v1)),.o,(.pv (.str g))],.q,.t,.h 1 (.pv (.str (g++(ByteArray.mk #[32,120])))),.q,.f,.h 3 (.app ((b++[(g++(ByteArray.mk #[32,120]))]):List ByteArray).length (((b++[(g++(ByteArray.mk #[32,120]))]):List ByteArray).map db).flatten),.h 1 (iI (c-1)),.aB [0,5,6],.drop [47]] (xZ (di h1) (bd ae.cells h2 h3) h4 (dE h5) (bd ae.cells h6 h7) h8 (cA h9) (bI cL) (cY ec) (k4 qR (b:List ByteArray) ([(g++(ByteArray.mk #[32,120]))]:List ByteArray) 16 (Eq.refl (b:List ByteArray).length) (Eq.refl ([(g++(ByteArray.mk #[32,120]))]:List ByteArray).length) gp rfl) (aG jz)) hL
theorem Ex(p:Rs)(b:List ByteArray)(c:Int)(k:Nat)(v:ae)(d:Int)(k1:Nat)(v1:ae)(g:ByteArray){r:PV}(h1:0≤c)(h2:c=(k:Int))(h3:p[k]? = some v)(h4:Cp 20 [v.pv] (vI d))(h5:d≠0)(h6:c=(k1:Int))(h7:p[k1]? = some v1)(h8:Cp 21 [v1.pv] (.str g))(h9:c≤0)(cL:c≤1)(ec:((b++[g]):List ByteArray).length*16≤140737488355328)(gp:ar (c-1))(hL:ag p (b++[g]) (c-1) r):ag p b c r :=
 lG 207 [1,3,1,1,3,1,1,1,6,1] [.a,.q,.t,.aI [.o,.o,(.row k (ae.cells v)),.o,(.pv (vI d))],.f,.aI [.o,.o,(.row k1 (ae.cells v1)),.o,(.pv (.str g))],.q,.f,.q,.f,.h 3 (.app ((b++[g]):List ByteArray).length (((b++[g]):List ByteArray).map db).flatten),.h 1 (iI (c-1)),.aB [0,5,6],.drop [47]] (Eu (di h1) (bd ae.cells h2 h3) h4 (dE h5) (bd ae.cells h6 h7) h8 (cY h9) (cY cL) (k4 qR (b:List ByteArray) ([g]:List ByteArray) 16 (Eq.refl (b:List ByteArray).length) (Eq.refl ([g]:List ByteArray).length) ec rfl) (aG gp)) hL
theorem Iy(p:Rs)(b:List ByteArray)(c:Int)(d:ByteArray)(h1:c<0)(h2:Cp 23 [qm db b,(.str (ByteArray.mk #[32,43,32]))] (.str d)):ag p b c (.aY [(.str d),.bD]) :=
 lD 156 [1,3,1] [.a,.q,.f,.eQ 5 ((b:List ByteArray).map db),.h 1 (.pv (.str d))] (y3 (jx h1) (cM qR (b:List ByteArray) (Eq.refl (b:List ByteArray).length)) h2)
end cH
namespace b8
@[reducible] def fn:Func:=Tryz.f9
def bg:List dB:=focus [0,2,0,0,2,1,2,0,0,2,0,0] [.code (az fn)]
def inv1(p:List ae)(zM:Nat):St:=⟨[(0,(.pv (ah p))),(9,(.pv (ah p))),(10,(eI (p.length:Int))),(11,(eI (zM:Int)))],[]⟩
@[reducible] def ag(p:List ae)(zM:Nat)(r:PV):Prop:=L bh fn bg (inv1 p zM) r
theorem e0(p:Rs)(h1:65<p.length):Cp 9 [ah p] (.iface 55 (vI 4)) :=
 eD func9 84 [1,1] [.q,.h 1 (iI (p.length:Int)),.t,.q] (y2 (ak ae.cells p) (af h1))
theorem e1(p:Rs){r:PV}(h1:p.length≤65)(hL:ag p 0 r):Cp 9 [ah p] r :=
 eG func9 96 [1,1,1] [.q,.h 1 (iI (p.length:Int)),.f,.h 1 (iI (p.length:Int)),.aB [0,9,10,11]] (y3 (ak ae.cells p) (an h1) (ak ae.cells p)) hL
theorem l10(p:Rs)(b:Nat)(v:ae)(c:Bool)(h1:b<p.length)(h2:p[b]? = some v)(h3:Cp 27 [v.pv] (vB c))(h4:c=false):ag p b (.iface 55 (vI 2)) :=
 lD 141 [1,3,1,1] [.a,.q,.t,.h 0 (.row b (ae.cells v)),.h 1 (.pv (vB c)),.t,.q] (y4 (af h1) (bd ae.cells (Eq.refl (((b:Nat):Int):Int)) h2) h3 (cF h4))
theorem cW(p:Rs)(b:Nat)(v:ae)(c:Bool){r:PV}(h1:b<p.length)(h2:p[b]? = some v)(h3:Cp 27 [v.pv] (vB c))(h4:c=true)(h5:(b+1)<9223372036854775808)(hL:ag p (b+1) r):ag p b r :=
 lG 144 [1,3,1,1,1] [.a,.q,.t,.h 0 (.row b (ae.cells v)),.h 1 (.pv (vB c)),.f,.h 0 (iI (((b+1):Nat):Int)),.aB [0,9,10,11],.drop [4]] (y5 (af h1) (bd ae.cells (Eq.refl (((b:Nat):Int):Int)) h2) h3 (bm h4) (aH h5)) hL
theorem mD(p:Rs)(b k:Nat)(v:ae)(c:Int)(h1:p.length≤b)(h2:0<p.length)(h3:ar ((p.length:Int)-1))(h4:((p.length:Int)-1)=(k:Int))(h5:p[k]? = some v)(h6:Cp 20 [v.pv] (vI c))(h7:c=0):ag p b (.iface 55 (vI 8)) :=
 lD 141 [1,1,1,1,1,1,1,1,1,3,1,1,1,1,1,1] [.a,.q,.f,.aI [.o,(iI (p.length:Int)),.o,.o,.o,.o,(iI (p.length:Int)),(iI ((p.length:Int)-1)),(.row k (ae.cells v)),.o,(.pv (vI c)),.o,(.dec true)],.t,.q] (Cg (an h1) (ak ae.cells p) (af h2) (af h2) (af h2) (ak ae.cells p) (af h2) (aG h3) (af h2) (bd ae.cells h4 h5) (af h2) (af h2) h6 (af h2) (af h2) (dO h7))
theorem zE(p:Rs)(b k:Nat)(v:ae)(c:Int)(h1:p.length≤b)(h2:0<p.length)(h3:ar ((p.length:Int)-1))(h4:((p.length:Int)-1)=(k:Int))(h5:p[k]? = some v)(h6:Cp 20 [v.pv] (vI c))(h7:c≠0):ag p b .bD :=
 lD 144 [1,1,1,1,1,1,1,1,1,3,1,1,1,1,1,1] [.a,.q,.f,.aI [.o,(iI (p.length:Int)),.o,.o,.o,.o,(iI (p.length:Int)),(iI ((p.length:Int)-1)),(.row k (ae.cells v)),.o,(.pv (vI c)),.o,(.dec true)],.f,.q] (Cg (an h1) (ak ae.cells p) (af h2) (af h2) (af h2) (ak ae.cells p) (af h2) (aG h3) (af h2) (bd ae.cells h4 h5) (af h2) (af h2) h6 (af h2) (af h2) (dE h7))
theorem Ex(p:Rs)(b:Nat)(h1:p.length≤b)(h2:p.length≤0):ag p b .bD :=
 lD 144 [1,1,1,1,1,1,1,1,1,1,1] [.a,.q,.f,.aI [.o,(iI (p.length:Int)),.o,.o,.skip,.skip,.skip,.skip,.skip,.skip,.skip,.skip,(.dec false)],.a,.q] (xZ (an h1) (ak ae.cells p) (an h2) (an h2) (an h2) (an h2) (an h2) (an h2) (an h2) (an h2) (an h2))
end b8
namespace fG
@[reducible] def fn:Func:=Tryz.f12
def bg:List dB:=focus [0,2,0,2,0,0,2,0,0] [.code (az fn)]
def inv1(bl l:List ae)(ub:Nat):St:=⟨[(3,(.row 17 0 bl.length 3)),(6,(.pv (ah l))),(7,(eI (l.length:Int))),(8,(eI (ub:Int)))],[(17,(.pure ((bl:List ae).map ae.cells).flatten))]⟩
@[reducible] def ag(bl l:List ae)(ub:Nat)(r:PV):Prop:=L bh fn bg (inv1 bl l ub) r
def jt:List dB:=focus [0,2,0,2,0,0,2,0,0,0,0,2,0,1,2,2,2,2,0,0,0] [.code (az fn)]
def inv2(bl:List ae):St:=⟨[(3,(.row 17 0 bl.length 3))],[(17,(.pure ((bl:List ae).map ae.cells).flatten))]⟩
@[reducible] def aM(bl:List ae)(r:PV):Prop:=L bh fn jt (inv2 bl) r
theorem e0 (l : Rs) {r : PV}  (hL : ag [] l 0 r) : Cp 12 [ah l] r :=
 eG func12 87 [1] [.q,.h 0 .nil,.mY 3 17 3,.h 1 (iI (l.length:Int)),.aB [3,6,7,8]] (y1 (ak ae.cells l)) hL
theorem l10(b l:Rs)(c:Nat)(v d:ae){r:PV}(h1:c<l.length)(h2:l[c]? = some v)(h3:Cp 30 [v.pv,(⟨false,[],[]⟩:ae).pv] d.pv)(h4:((b++[d]):Rs).length*56≤140737488355328)(h5:(c+1)<9223372036854775808)(hL:ag (b++[d]) l (c+1) r):ag b l c r :=
 lG 126 [1,3,1,6,1] [.a,.q,.t,.h 0 (.row c (ae.cells v)),.aI [.o,.o,.o,(.pv d.pv),.o,(.app ((b++[d]):Rs).length (((b++[d]):Rs).map ae.cells).flatten)],.h 0 (iI (((c+1):Nat):Int)),.aB [3,6,7,8],.drop [16,5]] (y5 (af h1) (bd ae.cells (Eq.refl (((c:Nat):Int):Int)) h2) h3 (k4 bq (b:Rs) ([d]:Rs) 56 (Eq.refl (b:Rs).length) (Eq.refl ([d]:Rs).length) h4 rfl) (aH h5)) hL
theorem cW(b l:Rs)(c:Nat){r:PV}(h1:l.length≤c)(hL:aM b r):ag b l c r :=
 lG 123 [1] [.a,.q,.f,.aB [3]] (y1 (an h1)) hL
theorem tY(b:Rs)(k:Nat)(v:ae)(c:Int)(u:Nat){r:PV}(h1:0<b.length)(h2:ar ((b.length:Int)-1))(h3:((b.length:Int)-1)=(k:Int))(h4:k<b.length)(h5:b[k]? = some v)(h6:Cp 20 [v.pv] (vI c))(h7:c=0)(h8:((b.length:Int)-1)=(u:Int))(h9:u≤(b:Rs).length)(hL:aM (b.take u) r):aM b r :=
 lG 150 [1,1,1,1,1,1,2,1,2,1,1,1,1,1,1,5,1] [.a,.aI [.o,.o,.o,.o,.o,.o,.o,(iI ((b.length:Int)-1)),(.nat k),(.B2 [vB v.neg,aa v.num,aa v.den]),(.pv (vI c)),.o,(.dec true)],.t,.aI [.o,.o,.o,(iI ((b.length:Int)-1)),(.kV 0 ((b.take u).length) [])],.cut 17 (u*3) (((b.take u):Rs).map ae.cells).flatten,.aB [3]] (Jo (af h1) (af h1) (af h1) (af h1) (aG h2) (af h1) (cj h3 h4) (af h1) (pI bq h5) (af h1) h6 (af h1) (af h1) (dO h7) (aG h2) (xY (b:Rs) h8 h9) (pJ bq (b:Rs) u)) hL
theorem sf(b:Rs)(k:Nat)(v:ae)(c:Int)(h1:0<b.length)(h2:ar ((b.length:Int)-1))(h3:((b.length:Int)-1)=(k:Int))(h4:k<b.length)(h5:b[k]? = some v)(h6:Cp 20 [v.pv] (vI c))(h7:c≠0):aM b (ah b) :=
 lD 156 [1,1,1,1,1,1,2,1,2,1,1,1,1,1,3] [.a,.aI [.o,.o,.o,.o,.o,.o,.o,(iI ((b.length:Int)-1)),(.nat k),(.B2 [vB v.neg,aa v.num,aa v.den]),(.pv (vI c)),.o,(.dec true)],.f,.q,.eQ 2 ((b:Rs).map ae.cells)] (Ix (af h1) (af h1) (af h1) (af h1) (aG h2) (af h1) (cj h3 h4) (af h1) (pI bq h5) (af h1) h6 (af h1) (af h1) (dE h7) (cM bq (b:Rs) (Eq.refl (b:Rs).length)))
theorem BI(b:Rs)(h1:b.length≤0):aM b (ah b) :=
 lD 156 [1,1,1,1,1,1,1,1,1,3] [.a,.aI [.o,.o,.o,.o,.skip,.skip,.skip,.skip,.skip,.skip,.skip,.skip,(.dec false)],.a,.q,.eQ 2 ((b:Rs).map ae.cells)] (Eu (an h1) (an h1) (an h1) (an h1) (an h1) (an h1) (an h1) (an h1) (an h1) (cM bq (b:Rs) (Eq.refl (b:Rs).length)))
end fG
namespace ew
@[reducible] def fn:Func:=Tryz.f12
def bg:List dB:=focus [0,2,0,2,0,0,2,0,0] [.code (az fn)]
def inv1(bl l:List ae)(ub:Nat):St:=⟨[(3,(.row 17 0 bl.length 3)),(6,(.pv (ah l))),(7,(eI (l.length:Int))),(8,(eI (ub:Int)))],[(17,(.pure ((bl:List ae).map ae.cells).flatten))]⟩
@[reducible] def ag(bl l:List ae)(ub:Nat)(sin:aD)(r:EV)(sout:aD):Prop:=LX bh fn bg (inv1 bl l ub) sin r sout
def jt:List dB:=focus [0,2,0,2,0,0,2,0,0,0,0,2,0,1,2,2,2,2,0,0,0] [.code (az fn)]
def inv2(bl:List ae):St:=⟨[(3,(.row 17 0 bl.length 3))],[(17,(.pure ((bl:List ae).map ae.cells).flatten))]⟩
@[reducible] def aM(bl:List ae)(sin:aD)(r:EV)(sout:aD):Prop:=LX bh fn jt (inv2 bl) sin r sout
theorem e0 (l : Rs) {r : EV} {sout : aD}  (hL : ag [] l 0 [] r sout) : aq bh 12 [(.pv (ah l))] [] r sout :=
 Dl func12 87 [1] [.q,.h 0 .nil,.mY 3 17 3,.h 1 (iI (l.length:Int)),.aB [3,6,7,8]] (y1 (ak ae.cells l)) hL
theorem l10(b l:Rs)(c:Nat)(v d:ae){r:EV}{sout:aD}{sin:aD}(hs:sin.all (fun p=>Nat.ble fn.ntmps p.1)=true)(h1:c<l.length)(h2:l[c]? = some v)(h3:Cp 30 [v.pv,(⟨false,[],[]⟩:ae).pv] d.pv)(h4:((b++[d]):Rs).length*56≤140737488355328)(h5:(c+1)<9223372036854775808)(hL:ag (b++[d]) l (c+1) sin r sout):ag b l c sin r sout :=
 BH 126 [1,3,1,6,1] [.a,.q,.t,.h 0 (.row c (ae.cells v)),.aI [.o,.o,.o,(.pv d.pv),.o,(.app ((b++[d]):Rs).length (((b++[d]):Rs).map ae.cells).flatten)],.h 0 (iI (((c+1):Nat):Int)),.aB [3,6,7,8],.drop [16,5]] hs (y5 (af h1) (bd ae.cells (Eq.refl (((c:Nat):Int):Int)) h2) h3 (k4 bq (b:Rs) ([d]:Rs) 56 (Eq.refl (b:Rs).length) (Eq.refl ([d]:Rs).length) h4 rfl) (aH h5)) hL
theorem cW(b l:Rs)(c:Nat){r:EV}{sout:aD}{sin:aD}(hs:sin.all (fun p=>Nat.ble fn.ntmps p.1)=true)(h1:l.length≤c)(hL:aM b sin r sout):ag b l c sin r sout :=
 BH 123 [1] [.a,.q,.f,.aB [3]] hs (y1 (an h1)) hL
theorem tY(b:Rs)(k:Nat)(v:ae)(c:Int)(u:Nat){r:EV}{sout:aD}{sin:aD}(hs:sin.all (fun p=>Nat.ble fn.ntmps p.1)=true)(h1:0<b.length)(h2:ar ((b.length:Int)-1))(h3:((b.length:Int)-1)=(k:Int))(h4:k<b.length)(h5:b[k]? = some v)(h6:Cp 20 [v.pv] (vI c))(h7:c=0)(h8:((b.length:Int)-1)=(u:Int))(h9:u≤(b:Rs).length)(hL:aM (b.take u) sin r sout):aM b sin r sout :=
 BH 150 [1,1,1,1,1,1,2,1,2,1,1,1,1,1,1,5,1] [.a,.aI [.o,.o,.o,.o,.o,.o,.o,(iI ((b.length:Int)-1)),(.nat k),(.B2 [vB v.neg,aa v.num,aa v.den]),(.pv (vI c)),.o,(.dec true)],.t,.aI [.o,.o,.o,(iI ((b.length:Int)-1)),(.kV 0 ((b.take u).length) [])],.cut 17 (u*3) (((b.take u):Rs).map ae.cells).flatten,.aB [3]] hs (Jo (af h1) (af h1) (af h1) (af h1) (aG h2) (af h1) (cj h3 h4) (af h1) (pI bq h5) (af h1) h6 (af h1) (af h1) (dO h7) (aG h2) (xY (b:Rs) h8 h9) (pJ bq (b:Rs) u)) hL
theorem sf(b:Rs)(k:Nat)(v:ae)(c:Int){sin:aD}(hs:sin.all (fun p=>Nat.ble fn.ntmps p.1)=true)(hi:sin.all (fun p=>o5 p.1||(aD.get [(0,(.pure ((b:Rs).map ae.cells).flatten))] p.1).isSome)=true)(h1:0<b.length)(h2:ar ((b.length:Int)-1))(h3:((b.length:Int)-1)=(k:Int))(h4:k<b.length)(h5:b[k]? = some v)(h6:Cp 20 [v.pv] (vI c))(h7:c≠0):aM b sin (.row 0 0 b.length 3) [(0,(.pure ((b:Rs).map ae.cells).flatten))] :=
 xe 156 [1,1,1,1,1,1,2,1,2,1,1,1,1,1] [.a,.aI [.o,.o,.o,.o,.o,.o,.o,(iI ((b.length:Int)-1)),(.nat k),(.B2 [vB v.neg,aa v.num,aa v.den]),(.pv (vI c)),.o,(.dec true)],.f,.q,.uR 17 0,.ord [0]] hs hi (Ff (af h1) (af h1) (af h1) (af h1) (aG h2) (af h1) (cj h3 h4) (af h1) (pI bq h5) (af h1) h6 (af h1) (af h1) (dE h7))
theorem BI(b:Rs){sin:aD}(hs:sin.all (fun p=>Nat.ble fn.ntmps p.1)=true)(hi:sin.all (fun p=>o5 p.1||(aD.get [(0,(.pure ((b:Rs).map ae.cells).flatten))] p.1).isSome)=true)(h1:b.length≤0):aM b sin (.row 0 0 b.length 3) [(0,(.pure ((b:Rs).map ae.cells).flatten))] :=
 xe 156 [1,1,1,1,1,1,1,1,1] [.a,.aI [.o,.o,.o,.o,.skip,.skip,.skip,.skip,.skip,.skip,.skip,.skip,(.dec false)],.a,.q,.uR 17 0,.ord [0]] hs hi (y9 (an h1) (an h1) (an h1) (an h1) (an h1) (an h1) (an h1) (an h1) (an h1))
end ew
namespace rI
theorem e0(p:Rs)(h1:ar ((p.length:Int)-1)):Cp 14 [ah p] (vI ((p.length:Int)-1)) :=
 eD func14 72 [1,1] [.q,.aI [.o,(iI (p.length:Int)),(iI ((p.length:Int)-1))]] (y2 (ak ae.cells p) (aG h1))
end rI
namespace x7
theorem e1(p q b c:Rs)(h1:Cp 32 [(qm (df ae.cells) [p,q])] .bD)(h2:q.length≠0)(h3:Cp 33 [ah p,ah q] (.aY [ah b,ah c])):Cp 16 [ah p,ah q] (.aY [ah b,ah c,.bD]) :=
 eD func16 114 [3,1,1,1,1] [.q,.aI [.o,.o,(.kV 0 0 (([p,q]:List (Rs)).map (df ae.cells))),(.pv .bD)],.q,.a,.h 1 (iI (q.length:Int)),.f,.h 2 (.pv (.aY [ah b,ah c])),.q] (y5 (ln (He ae.cells) ([p,q]:List (Rs))) h1 (ak ae.cells q) (av h2) h3)
end x7
namespace vt
theorem e1(p b c d g i:Rs)(h1:Cp 9 [ah p] .bD)(h2:p.length≠0)(h3:Cp 36 [ah p] (ah b))(h4:Cp 35 [ah p,ah b] (ah c))(h5:Cp 33 [ah p,ah c] (.aY [ah d,ah g]))(h6:Cp 37 [ah d] (ah i)):Cp 18 [ah p] (.aY [ah i,.bD]) :=
 eD func18 114 [1,1,1,1,1,1,1] [.q,.h 1 (.pv .bD),.q,.a,.h 1 (iI (p.length:Int)),.f,.aI [.o,.o,.o,(.pv (ah b)),(.pv (ah c)),(.pv (.aY [ah d,ah g]))],.h 1 (.pv (ah i))] (y7 h1 (ak ae.cells p) (av h2) h3 h4 h5 h6)
end vt
namespace aO
@[reducible] def fn:Func:=Tryz.f19
def bg:List dB:=focus [0,2,0,0,2,1,2,0,0,2,1,2,0,0,2,0,0] [.code (az fn)]
def inv1(x y:List ae)(zP:Nat):St:=⟨[(0,(.pv (ah x))),(1,(.pv (ah y))),(31,(.row 31 0 2 1)),(32,(eI 2)),(33,(eI (zP:Int)))],[(31,(.pure (([x,y]:List (List ae)).map (df ae.cells)).flatten))]⟩
@[reducible] def ag(x y:List ae)(zP:Nat)(r:PV):Prop:=L bh fn bg (inv1 x y zP) r
def jt:List dB:=focus [0,2,0,0,2,1,2,0,0,2,1,2,0,0,2,0,0,0,0,2,0,0,2,0,0,0,2,0,2,0,0] [.code (az fn)]
def inv2(x y:List ae)(zP:Nat)(v:List ae)(Hz:Nat):St:=⟨[(0,(.pv (ah x))),(1,(.pv (ah y))),(31,(.row 31 0 2 1)),(32,(eI 2)),(33,(eI (zP:Int))),(37,(.pv (ah v))),(38,(eI (v.length:Int))),(39,(eI (Hz:Int)))],[(31,(.pure (([x,y]:List (List ae)).map (df ae.cells)).flatten))]⟩
@[reducible] def aM(x y:List ae)(zP:Nat)(v:List ae)(Hz:Nat)(r:PV):Prop:=L bh fn jt (inv2 x y zP v Hz) r
def Dr:List dB:=focus [0,2,0,0,2,1,2,0,0,2,1,2,0,0,2,0,0,0,0,2,0,1,2,2,2,2,0,0,2,0,0] [.code (az fn)]
def Ds(x y:List ae)(zQ:Nat):St:=⟨[(0,(.pv (ah x))),(1,(.pv (ah y))),(50,(eI (x.length:Int))),(51,(eI (zQ:Int)))],[]⟩
@[reducible] def gg(x y:List ae)(zQ:Nat)(r:PV):Prop:=L bh fn Dr (Ds x y zQ) r
def Hr:List dB:=focus [0,2,0,0,2,1,2,0,0,2,1,2,0,0,2,0,0,0,0,2,0,1,2,2,2,2,0,0,2,0,0,0,0,2,0,0,2,0,0,0,2,0,2,0,0] [.code (az fn)]
def Hs(x y:List ae)(HA zQ HB HC:Nat):St:=⟨[(0,(.pv (ah x))),(1,(.pv (ah y))),(10,(eI (HA:Int))),(50,(eI (x.length:Int))),(51,(eI (zQ:Int))),(54,(eI (HB:Int))),(55,(eI (HC:Int)))],[]⟩
@[reducible] def lv(x y:List ae)(HA zQ HB HC:Nat)(r:PV):Prop:=L bh fn Hr (Hs x y HA zQ HB HC) r
def Hv:List dB:=focus [0,2,0,0,2,1,2,0,0,2,1,2,0,0,2,0,0,0,0,2,0,1,2,2,2,2,0,0,2,0,0,0,0,2,0,1,2,2,2,2,0,2,0,2,0,0,2,0,0] [.code (az fn)]
def Hw(x y zR uc:List ae)(HD:Nat):St:=⟨[(0,(.pv (ah x))),(1,(.pv (ah y))),(12,(.pv (ah zR))),(13,(.pv (ah uc))),(74,(eI (x.length:Int))),(75,(eI (HD:Int)))],[]⟩
@[reducible] def kM(x y zR uc:List ae)(HD:Nat)(r:PV):Prop:=L bh fn Hv (Hw x y zR uc HD) r
theorem e2(x y:Rs){r:PV}(h1:x.length=y.length)(h2:x.length≤65)(hL:ag x y 0 r):Cp 19 [ah x,ah y] r :=
 eG func19 111 [1,1,1,1,1] [.q,.aI [.o,(iI (x.length:Int)),.o,(iI (y.length:Int))],.f,.h 1 (iI (x.length:Int)),.f,.q,.aB [0,1,31,32,33]] (y5 (ak ae.cells x) (ak ae.cells y) (lY h1) (ak ae.cells x) (an h2)) hL
theorem l10(x y:Rs)(b:Nat)(v:Rs){r:PV}(h1:b<2)(h2:[x,y][b]? = some v)(hL:aM x y b v 0 r):ag x y b r :=
 lG 153 [1,2,1,1] [.a,.q,.t,.aI [(.nat b),(.ev (.pv (ah v)))],.h 1 (iI (v.length:Int)),.aB [0,1,31,32,33,37,38,39]] (y4 (af h1) (cj (Eq.refl (((b:Nat):Int):Int)) h1) (eK (enc:=(df ae.cells)) (f:=fun a=>(ah a)) (fun _=>rfl) h2) (ak ae.cells v)) hL
theorem cW(x y:Rs)(b:Nat){r:PV}(h1:2≤b)(hL:gg x y 0 r):ag x y b r :=
 lG 153 [1,1] [.a,.q,.f,.h 1 (iI (x.length:Int)),.aB [0,1,50,51],.drop [31]] (y2 (an h1) (ak ae.cells x)) hL
theorem sf(x y:Rs)(b:Nat)(v:Rs)(c:Nat)(v1:ae)(d:Bool){r:PV}(h1:c<v.length)(h2:v[c]? = some v1)(h3:Cp 27 [v1.pv] (vB d))(h4:d=true)(h5:(c+1)<9223372036854775808)(hL:aM x y b v (c+1) r):aM x y b v c r :=
 lG 201 [1,3,1,1,1] [.a,.q,.t,.h 0 (.row c (ae.cells v1)),.h 1 (.pv (vB d)),.f,.h 0 (iI (((c+1):Nat):Int)),.aB [0,1,31,32,33,37,38,39],.drop [9]] (y5 (af h1) (bd ae.cells (Eq.refl (((c:Nat):Int):Int)) h2) h3 (bm h4) (aH h5)) hL
theorem BI(x y:Rs)(b:Nat)(v:Rs)(c:Nat){r:PV}(h1:v.length≤c)(h2:(b+1)<9223372036854775808)(hL:ag x y (b+1) r):aM x y b v c r :=
 lG 186 [1,1] [.a,.q,.f,.h 0 (iI (((b+1):Nat):Int)),.aB [0,1,31,32,33]] (y2 (an h1) (aH h2)) hL
theorem Hq(x y:Rs)(b:Nat){r:PV}(h1:b<x.length)(hL:lv x y b b b 0 r):gg x y b r :=
 lG 195 [1] [.a,.q,.t,.q,.q,.aB [0,1,10,50,51,54,55]] (y1 (af h1)) hL
theorem LA(x y:Rs)(b:Nat)(of:ae){r:PV}(h1:x.length≤b)(h2:Cp 39 [vI 1] of.pv)(hL:kM x y [] [of] 0 r):gg x y b r :=
 lG 207 [1,1,1,3] [.a,.q,.f,.q,.h 0 (.pv of.pv),.h 1 (iI (x.length:Int)),.eQ 13 (([of]:Rs).map ae.cells),.aB [0,1,12,13,74,75]] (y4 (an h1) h2 (ak ae.cells x) (cM bq ([of]:Rs) (Eq.refl ([of]:Rs).length))) hL
theorem LB(x y:Rs)(b c d g:Nat)(v v1:ae)(i:Int)(h1:g<d)(h2:x[b]? = some v)(h3:x[g]? = some v1)(h4:Cp 38 [v.pv,v1.pv] (vI i))(h5:i=0):lv x y b c d g (.aY [(ah []),(.iface 55 (vI 6))]) :=
 lD 240 [1,3,3,1,1] [.a,.q,.t,.q,dr 10 0 [.none,.none,(.row b (ae.cells v)),.none,.none,.none,(.row g (ae.cells v1)),.none,(.pv (vI i))],.t,.q] (y5 (af h1) (bd ae.cells (Eq.refl (((b:Nat):Int):Int)) h2) (bd ae.cells (Eq.refl (((g:Nat):Int):Int)) h3) h4 (dO h5))
theorem Kc(x y:Rs)(b c d g:Nat)(v v1:ae)(i:Int){r:PV}(h1:g<d)(h2:x[b]? = some v)(h3:x[g]? = some v1)(h4:Cp 38 [v.pv,v1.pv] (vI i))(h5:i≠0)(h6:(g+1)<9223372036854775808)(hL:lv x y b c d (g+1) r):lv x y b c d g r :=
 lG 243 [1,3,3,1,1,1] [.a,.q,.t,.q,dr 10 0 [.none,.none,(.row b (ae.cells v)),.none,.none,.none,(.row g (ae.cells v1)),.none,(.pv (vI i))],.f,.h 0 (iI (((g+1):Nat):Int)),.aB [0,1,10,50,51,54,55]] (y6 (af h1) (bd ae.cells (Eq.refl (((b:Nat):Int):Int)) h2) (bd ae.cells (Eq.refl (((g:Nat):Int):Int)) h3) h4 (dE h5) (aH h6)) hL
theorem OA(x y:Rs)(b c d g:Nat){r:PV}(h1:d≤g)(h2:(c+1)<9223372036854775808)(hL:gg x y (c+1) r):lv x y b c d g r :=
 lG 228 [1,1] [.a,.q,.f,.h 0 (iI (((c+1):Nat):Int)),.aB [0,1,50,51]] (y2 (an h1) (aH h2)) hL
theorem LC(x y b c:Rs)(d:Nat)(v g i v1 j k:ae)(l:Rs)(m of:ae)(n:Rs){r:PV}(h1:d<x.length)(h2:x[d]? = some v)(h3:Cp 40 [ah b,v.pv] (.aY [g.pv,.bD]))(h4:Cp 40 [ah c,v.pv] (.aY [i.pv,.bD]))(h5:y[d]? = some v1)(h6:Cp 42 [v1.pv,g.pv] j.pv)(h7:Cp 41 [j.pv,i.pv] (.aY [k.pv,.bD]))(h8:Cp 43 [ah b,ah c,k.pv] (ah l))(h9:d<64)(cL:Cp 45 [v.pv] m.pv)(ec:Cp 39 [vI 1] of.pv)(gp:Cp 44 [ah c,(ah [m,of])] (ah n))(jz:(d+1)<9223372036854775808)(hL:kM x y l n (d+1) r):kM x y b c d r :=
 lG 324 [1,3,1,3,1,3,1,1,1,1,3,1,1,3,1,1] [.a,.q,.t,.q,.aI [.o,.o,.o,(.row d (ae.cells v)),.o,(.pv (.aY [g.pv,.bD]))],.q,.a,.aI [.o,.o,.o,(.row d (ae.cells v)),.o,(.pv (.aY [i.pv,.bD]))],.q,.a,dr 13 1 [.none,.none,(.row d (ae.cells v1)),.none,.none,(.pv j.pv),.none,(.pv (.aY [k.pv,.bD]))],.q,.a,.h 3 (.pv (ah l)),.q,.t,.aI [.o,.o,.o,(.row d (ae.cells v)),.o,(.pv m.pv),(.pv of.pv),(.kV 0 0 (([m,of]:Rs).map ae.cells)),(.pv (ah n))],.h 0 (iI (((d+1):Nat):Int)),.aB [0,1,12,13,74,75],.drop [18,17,15]] (Cg (af h1) (bd ae.cells (Eq.refl (((d:Nat):Int):Int)) h2) h3 (bd ae.cells (Eq.refl (((d:Nat):Int):Int)) h2) h4 (bd ae.cells (Eq.refl (((d:Nat):Int):Int)) h5) h6 h7 h8 (af h9) (bd ae.cells (Eq.refl (((d:Nat):Int):Int)) h2) cL ec (ln bq ([m,of]:Rs)) gp (aH jz)) hL
theorem OB(x y b c:Rs)(d:Nat)(h1:x.length≤d):kM x y b c d (.aY [ah b,.bD]) :=
 lD 240 [1] [.a,.q,.f,.q] (y1 (an h1))
end aO
namespace fi
@[reducible] def fn:Func:=Tryz.f32
def bg:List dB:=focus [0,2,0,0,2,0,0] [.code (az fn)]
def inv1(list:List (List ae))(ub:Nat):St:=⟨[(6,(.pv (qm (df ae.cells) list))),(7,(eI (list.length:Int))),(8,(eI (ub:Int)))],[]⟩
@[reducible] def ag(list:List (List ae))(ub:Nat)(r:PV):Prop:=L bh fn bg (inv1 list ub) r
theorem e0 (a : List (Rs)) {r : PV}  (hL : ag a 0 r) : Cp 32 [(qm (df ae.cells) a)] r :=
 eG func32 81 [1] [.q,.h 1 (iI (a.length:Int)),.aB [6,7,8]] (y1 (ak (df ae.cells) a)) hL
theorem l10(b:List (Rs))(c:Nat)(v:Rs){r:PV}(h1:c<b.length)(h2:b[c]? = some v)(h3:Cp 9 [ah v] .bD)(h4:(c+1)<9223372036854775808)(hL:ag b (c+1) r):ag b c r :=
 lG 135 [1,3,1,1] [.a,.q,.t,.h 0 (.row c ((df ae.cells) v)),.h 1 (.pv .bD),.q,.a,.h 0 (iI (((c+1):Nat):Int)),.aB [6,7,8]] (y4 (af h1) (bd (df ae.cells) (Eq.refl (((c:Nat):Int):Int)) h2) h3 (aH h4)) hL
theorem cW(b:List (Rs))(c:Nat)(v:Rs)(d:Int)(h1:c<b.length)(h2:b[c]? = some v)(h3:Cp 9 [ah v] (.iface 55 (vI d))):ag b c (.iface 55 (vI d)) :=
 lD 132 [1,3,1] [.a,.q,.t,.h 0 (.row c ((df ae.cells) v)),.h 1 (.pv (.iface 55 (vI d))),.q,.a,.q] (y3 (af h1) (bd (df ae.cells) (Eq.refl (((c:Nat):Int):Int)) h2) h3)
theorem mD(b:List (Rs))(c:Nat)(h1:b.length≤c):ag b c .bD :=
 lD 114 [1] [.a,.q,.f,.q] (y1 (an h1))
end fi
namespace ef
@[reducible] def fn:Func:=Tryz.f33
def bg:List dB:=focus [0,2,0,2,0,2,0,2,0,0,0] [.code (az fn)]
def inv1(q:List ae)(oS m:Nat)(v:ae)(er mh:List ae):St:=⟨[(1,(.pv (ah q))),(6,(.row 15 0 oS 3)),(7,(.row 23 0 m 3)),(8,(.ptr 8 0))],[(8,(.lit [(eB v.neg),(.pv (aa v.num)),(.pv (aa v.den))])),(15,(.pure ((er:List ae).map ae.cells).flatten)),(23,(.pure ((mh:List ae).map ae.cells).flatten))]⟩
@[reducible] def ag(q:List ae)(oS m:Nat)(v:ae)(er mh:List ae)(r:PV):Prop:=L bh fn bg (inv1 q oS m v er mh) r
def jt:List dB:=focus [0,2,0,2,0,2,0,2,0,0,0,0,0,0,2,0,2,0,0,2,0,2,0,2,0,0,2,0,0] [.code (az fn)]
def inv2(q:List ae)(oS m:Nat)(wK:Int)(HE:Nat)(v div:ae)(er mh:List ae):St:=⟨[(1,(.pv (ah q))),(6,(.row 15 0 oS 3)),(7,(.row 23 0 m 3)),(8,(.ptr 8 0)),(9,(eI wK)),(10,(.ptr 10 0)),(55,(.pv (ah q))),(56,(eI (q.length:Int))),(57,(eI (HE:Int)))],[(8,(.lit [(eB v.neg),(.pv (aa v.num)),(.pv (aa v.den))])),(10,(.lit [(eB div.neg),(.pv (aa div.num)),(.pv (aa div.den))])),(15,(.pure ((er:List ae).map ae.cells).flatten)),(23,(.pure ((mh:List ae).map ae.cells).flatten))]⟩
@[reducible] def aM(q:List ae)(oS m:Nat)(wK:Int)(HE:Nat)(v div:ae)(er mh:List ae)(r:PV):Prop:=L bh fn jt (inv2 q oS m wK HE v div er mh) r
theorem e0(p q z:Rs)(n m k:Nat)(v:ae){r:PV}(h1:aq bh 12 [.pv (ah p)] [] (.row 0 0 n 3) [(0,(.pure ((z:Rs).map ae.cells).flatten))])(h2:ar ((p.length:Int)-(q.length:Int)))(h3:ar (((p.length:Int)-(q.length:Int))+1))(h4:(max 0 (((p.length:Int)-(q.length:Int))+1))=(m:Int))(h5:56*m≤140737488355328)(h6:ar ((q.length:Int)-1))(h7:((q.length:Int)-1)=(k:Int))(h8:q[k]? = some v)(hL:ag q n m v z (List.replicate m (⟨false,[],[]⟩:ae)) r):Cp 33 [ah p,ah q] r :=
 eG func33 93 [1,1,1,1,1,1,5,1,1,3] [.q,.h 1 (.bz [] (some (0,15)) (.row 0 0 n 3) [(0,(.pure ((z:Rs).map ae.cells).flatten))]),.aI [.o,(iI (p.length:Int)),.o,(iI (q.length:Int)),(iI ((p.length:Int)-(q.length:Int))),(iI (((p.length:Int)-(q.length:Int))+1)),(iI (max 0 (((p.length:Int)-(q.length:Int))+1))),(.app m ((List.replicate m (⟨false,[],[]⟩:ae):Rs).map ae.cells).flatten)],.aI [.o,.o,(iI (q.length:Int)),(iI ((q.length:Int)-1)),(.row k (ae.cells v))],.aB [1,6,7,8],.ord [8,15,23]] (Eu h1 (ak ae.cells p) (ak ae.cells q) (aG h2) (ng h3) (Hh 0 (((p.length:Int)-(q.length:Int))+1)) (oK ae.cells (⟨false,[],[]⟩:ae) 56 m h4 h5 rfl) (ak ae.cells q) (aG h6) (bd ae.cells h7 h8)) hL
theorem l10(q:Rs)(b m:Nat)(v:ae)(c d:Rs)(k:Nat)(v1 g:ae)(i:Option Int)(k1:Nat){r:PV}(h1:q.length≤b)(h2:ar ((b:Int)-(q.length:Int)))(h3:ar ((b:Int)-1))(h4:((b:Int)-1)=(k:Int))(h5:k<b)(h6:c[k]? = some v1)(h7:Cp 41 [v1.pv,v.pv] (.aY [g.pv,cX i]))(h8:((b:Int)-(q.length:Int))=(k1:Int))(h9:k1<m)(cL:k1<d.length)(hL:aM q b m ((b:Int)-(q.length:Int)) 0 v g c (d.set k1 g) r):ag q b m v c d r :=
 lG 147 [1,1,1,1,1,2,2,1,2,2,1] [.a,.h 3 (iI (q.length:Int)),.t,.aI [.o,.o,.o,(iI (q.length:Int)),(iI ((b:Int)-(q.length:Int)))],dr 13 1 [.none,.none,.none,(iI ((b:Int)-1)),(.nat k),(.B2 [vB v1.neg,aa v1.num,aa v1.den]),.none,(.pv (.aY [g.pv,cX i]))],.aI [.o,.o,.o,(.nat k1),(.cells (.pure (((d.set k1 g):Rs).map ae.cells).flatten))],.h 1 (iI (q.length:Int)),.aB [1,6,7,8,9,10,55,56,57],.ord [8,10,15,23]] (xZ (ak ae.cells q) (bE h1) (ak ae.cells q) (aG h2) (aG h3) (cj h4 h5) (pI bq h6) h7 (cj h8 h9) (ee bq (d:Rs) g cL) (ak ae.cells q)) hL
theorem cW(q:Rs)(b m:Nat)(v:ae)(c d g:Rs)(h1:b<q.length)(h2:m=d.length)(h3:Cp 12 [ah d] (ah g))(h4:b=c.length):ag q b m v c d (.aY [ah g,ah c]) :=
 lD 126 [1,1,3,1,3] [.a,.h 3 (iI (q.length:Int)),.f,.eQ 7 ((d:Rs).map ae.cells),.h 1 (.pv (ah g)),.eQ 5 ((c:Rs).map ae.cells)] (y5 (ak ae.cells q) (aP h1) (cM bq (d:Rs) h2) h3 (cM bq (c:Rs) h4))
theorem tY(q:Rs)(b m:Nat)(c:Int)(d:Nat)(v g:ae)(i j:Rs)(v1:ae)(k:Nat)(v2 l n:ae)(k1:Nat){r:PV}(h1:d<q.length)(h2:q[d]? = some v1)(h3:ar (c+(d:Int)))(h4:(c+(d:Int))=(k:Int))(h5:k<b)(h6:i[k]? = some v2)(h7:Cp 71 [g.pv,v1.pv] l.pv)(h8:Cp 42 [v2.pv,l.pv] n.pv)(h9:(c+(d:Int))=(k1:Int))(cL:k1<b)(ec:k1<i.length)(gp:(d+1)<9223372036854775808)(hL:aM q b m c (d+1) v g (i.set k1 n) j r):aM q b m c d v g i j r :=
 lG 186 [1,3,1,1,2,2,1,1,2,2,1] [.a,.q,.t,.h 1 (.row d (ae.cells v1)),dr 15 1 [.none,.none,.none,(iI (c+(d:Int))),.none,.none,.none,(iI (c+(d:Int))),(.nat k),(.B2 [vB v2.neg,aa v2.num,aa v2.den]),.none,.none,(.pv l.pv),(.pv n.pv),(.nat k1),(.cells (.pure (((i.set k1 n):Rs).map ae.cells).flatten))],.h 0 (iI (((d+1):Nat):Int)),.aB [1,6,7,8,9,10,55,56,57],.drop [13]] (xZ (af h1) (bd ae.cells (Eq.refl (((d:Nat):Int):Int)) h2) (ng h3) (ng h3) (cj h4 h5) (pI bq h6) h7 h8 (cj h9 cL) (ee bq (i:Rs) n ec) (aH gp)) hL
theorem sf(q:Rs)(b m:Nat)(c:Int)(d:Nat)(v g:ae)(i j z:Rs)(n:Nat){r:PV}(h1:q.length≤d)(h2:b=i.length)(h3:aq bh 12 [.pv (ah i)] [] (.row 0 0 n 3) [(0,(.pure ((z:Rs).map ae.cells).flatten))])(hL:ag q n m v z j r):aM q b m c d v g i j r :=
 lG 180 [1,3,1] [.a,.q,.f,.eQ 6 ((i:Rs).map ae.cells),.h 1 (.bz [] (some (0,79)) (.row 0 0 n 3) [(0,(.pure ((z:Rs).map ae.cells).flatten))]),.aB [1,6,7,8],.drop [10],.uR 79 15,.ord [8,15,23]] (y3 (an h1) (cM bq (i:Rs) h2) h3) hL
end ef
namespace nm
@[reducible] def fn:Func:=Tryz.f35
def bg:List dB:=focus [0,2,0,0,0] [.code (az fn)]
def inv1(LG LH:List ae):St:=⟨[(0,(.pv (ah LG))),(1,(.pv (ah LH)))],[]⟩
@[reducible] def ag(LG LH:List ae)(r:PV):Prop:=L bh fn bg (inv1 LG LH) r
theorem e0 (p q : Rs) {r : PV}  (hL : ag p q r) : Cp 35 [ah p, ah q] r :=
 eG func35 75 [] [.q,.aB [0,1]] True.intro hL
theorem l10(b c d g i:Rs){r:PV}(h1:0<c.length)(h2:Cp 33 [ah b,ah c] (.aY [ah d,ah g]))(h3:Cp 37 [ah g] (ah i))(hL:ag c i r):ag b c r :=
 lG 108 [1,1,1,1] [.a,.h 1 (iI (c.length:Int)),.t,.h 2 (.pv (.aY [ah d,ah g])),.h 2 (.pv (ah i)),.aB [0,1]] (y4 (ak ae.cells c) (af h1) h2 h3) hL
theorem cW(b c d:Rs)(h1:c.length≤0)(h2:Cp 37 [ah b] (ah d)):ag b c (ah d) :=
 lD 108 [1,1,1] [.a,.h 1 (iI (c.length:Int)),.f,.h 1 (.pv (ah d))] (y3 (ak ae.cells c) (an h1) h2)
end nm
namespace iZ
@[reducible] def fn:Func:=Tryz.f36
def bg:List dB:=focus [0,2,0,2,0,0,2,0,0] [.code (az fn)]
def inv1(p sD:List ae)(LI:Nat):St:=⟨[(0,(.pv (ah p))),(3,(.row 20 0 sD.length 3)),(4,(eI (LI:Int)))],[(20,(.pure ((sD:List ae).map ae.cells).flatten))]⟩
@[reducible] def ag(p sD:List ae)(LI:Nat)(r:PV):Prop:=L bh fn bg (inv1 p sD LI) r
theorem e0 (p : Rs) {r : PV}  (hL : ag p [] 1 r) : Cp 36 [ah p] r :=
 eG func36 87 [] [.q,.h 0 .nil,.mY 3 20 3,.q,.aB [0,3,4]] True.intro hL
theorem l10(p b:Rs)(c:Nat)(of v d:ae){r:PV}(h1:c<p.length)(h2:Cp 39 [(vI (c:Int))] of.pv)(h3:p[c]? = some v)(h4:Cp 71 [of.pv,v.pv] d.pv)(h5:((b++[d]):Rs).length*56≤140737488355328)(h6:(c+1)<9223372036854775808)(hL:ag p (b++[d]) (c+1) r):ag p b c r :=
 lG 120 [1,1,1,3,1,6,1] [.a,.h 2 (iI (p.length:Int)),.t,dr 9 2 [.none,.none,(.pv of.pv),.none,.none,(.row c (ae.cells v)),.none,(.pv d.pv),.none,(.app ((b++[d]):Rs).length (((b++[d]):Rs).map ae.cells).flatten)],.h 1 (iI (((c+1):Nat):Int)),.aB [0,3,4],.drop [19]] (y7 (ak ae.cells p) (af h1) h2 (bd ae.cells (Eq.refl (((c:Nat):Int):Int)) h3) h4 (k4 bq (b:Rs) ([d]:Rs) 56 (Eq.refl (b:Rs).length) (Eq.refl ([d]:Rs).length) h5 rfl) (aH h6)) hL
theorem cW(p b:Rs)(c:Nat)(d:Rs)(h1:p.length≤c)(h2:Cp 12 [ah b] (ah d)):ag p b c (ah d) :=
 lD 120 [1,1,3,1] [.a,.h 2 (iI (p.length:Int)),.f,.eQ 3 ((b:Rs).map ae.cells),.h 1 (.pv (ah d))] (y4 (ak ae.cells p) (an h1) (cM bq (b:Rs) (Eq.refl (b:Rs).length)) h2)
end iZ
namespace oT
theorem e0(p:Rs)(h1:p.length=0):Cp 37 [ah p] (ah []) :=
 eD func37 84 [1,1] [.q,.h 1 (iI (p.length:Int)),.t,.q] (y2 (ak ae.cells p) (aA h1))
theorem e1(p:Rs)(of:ae)(k:Nat)(v a:ae)(b:Option Int)(c:Rs)(h1:p.length≠0)(h2:Cp 39 [vI 1] of.pv)(h3:ar ((p.length:Int)-1))(h4:((p.length:Int)-1)=(k:Int))(h5:p[k]? = some v)(h6:Cp 41 [of.pv,v.pv] (.aY [a.pv,cX b]))(h7:Cp 43 [(ah []),ah p,a.pv] (ah c)):Cp 37 [ah p] (ah c) :=
 eD func37 93 [1,1,1,1,1,3,1,1] [.q,.h 1 (iI (p.length:Int)),.f,dr 13 1 [(.pv of.pv),.none,.none,(iI (p.length:Int)),(iI ((p.length:Int)-1)),(.row k (ae.cells v)),.none,(.pv (.aY [a.pv,cX b]))],.h 2 (.pv (ah c))] (y8 (ak ae.cells p) (av h1) h2 (ak ae.cells p) (aG h3) (bd ae.cells h4 h5) h6 h7)
end oT
namespace ly
@[reducible] def fn:Func:=Tryz.f40
def bg:List dB:=focus [0,2,0,0,2,0,2,1,2,0,2,0,0,2,0,0] [.code (az fn)]
def inv1(p:List ae)(zG:Int)(x dI:ae):St:=⟨[(0,(.pv (ah p))),(3,(.ptr 3 0)),(4,(.ptr 4 0)),(7,(.ptr 7 0)),(8,(eI zG))],[(3,(.lit [(eB x.neg),(.pv (aa x.num)),(.pv (aa x.den))])),(4,(.lit [(eB false),(.pv (.list [])),(.pv (.list []))])),(7,(.lit [(eB dI.neg),(.pv (aa dI.num)),(.pv (aa dI.den))]))]⟩
@[reducible] def ag(p:List ae)(zG:Int)(x dI:ae)(r:PV):Prop:=L bh fn bg (inv1 p zG x dI) r
theorem e0(p:Rs)(x:ae){r:PV}(h1:Cp 9 [ah p] .bD)(h2:ar ((p.length:Int)-1))(hL:ag p ((p.length:Int)-1) x (⟨false,[],[]⟩:ae) r):Cp 40 [ah p,x.pv] r :=
 eG func40 108 [1,1,1] [.q,.h 1 (.pv .bD),.q,.a,.q,.aI [.o,(iI (p.length:Int)),(iI ((p.length:Int)-1))],.aB [0,3,4,7,8],.ord [3,4,7]] (y3 h1 (ak ae.cells p) (aG h2)) hL
theorem l10(p:Rs)(b:Int)(x c d:ae)(k:Nat)(v g:ae){r:PV}(h1:0≤b)(h2:Cp 71 [c.pv,x.pv] d.pv)(h3:b=(k:Int))(h4:p[k]? = some v)(h5:Cp 30 [d.pv,v.pv] g.pv)(h6:ar (b-1))(hL:ag p (b-1) x g r):ag p b x c r :=
 lG 141 [1,1,3,1,1] [.a,.q,.t,dr 8 1 [.none,.none,(.pv d.pv),.none,.none,(.row k (ae.cells v)),.none,(.pv g.pv)],.h 1 (iI (b-1)),.aB [0,3,4,7,8]] (y5 (di h1) h2 (bd ae.cells h3 h4) h5 (aG h6)) hL
theorem cW(p:Rs)(b:Int)(x c:ae)(h1:b<0):ag p b x c (.aY [c.pv,.bD]) :=
 lD 141 [1] [.a,.q,.f,.q] (y1 (jx h1))
end ly
namespace lA
@[reducible] def fn:Func:=Tryz.f43
def bg:List dB:=focus [0,2,0,2,0,0,2,0,0] [.code (az fn)]
def inv1(p q:List ae)(zJ:Nat)(c:ae)(ma:List ae):St:=⟨[(0,(.pv (ah p))),(1,(.pv (ah q))),(5,(.ptr 5 0)),(7,(.row 14 0 (max p.length q.length) 3)),(16,(eI (((max p.length q.length):Nat):Int))),(17,(eI (zJ:Int)))],[(5,(.lit [(eB c.neg),(.pv (aa c.num)),(.pv (aa c.den))])),(14,(.pure ((ma:List ae).map ae.cells).flatten))]⟩
@[reducible] def ag(p q:List ae)(zJ:Nat)(c:ae)(ma:List ae)(r:PV):Prop:=L bh fn bg (inv1 p q zJ c ma) r
theorem e0(p q:Rs)(c:ae){r:PV}(h1:56*(max p.length q.length)≤140737488355328)(hL:ag p q 0 c (List.replicate (max p.length q.length) (⟨false,[],[]⟩:ae)) r):Cp 43 [ah p,ah q,c.pv] r :=
 eG func43 87 [1,1,1,5] [.q,.aI [.o,(iI (p.length:Int)),.o,(iI (q.length:Int)),(iI (((max p.length q.length):Nat):Int)),(.app (max p.length q.length) ((List.replicate (max p.length q.length) (⟨false,[],[]⟩:ae):Rs).map ae.cells).flatten)],.q,.aB [0,1,5,7,16,17],.ord [5,14]] (y4 (ak ae.cells p) (ak ae.cells q) (qU p.length q.length) (oK ae.cells (⟨false,[],[]⟩:ae) 56 (max p.length q.length) (Eq.refl ((((max p.length q.length):Nat):Int):Int)) h1 rfl)) hL
theorem l10(p q:Rs)(b:Nat)(c:ae)(d:Rs)(g i j k:ae){r:PV}(h1:b<(max p.length q.length))(h2:Cp 75 [ah p,(vI (b:Int))] g.pv)(h3:Cp 75 [ah q,(vI (b:Int))] i.pv)(h4:Cp 71 [c.pv,i.pv] j.pv)(h5:Cp 30 [g.pv,j.pv] k.pv)(h6:b<d.length)(h7:(b+1)<9223372036854775808)(hL:ag p q (b+1) c (d.set b k) r):ag p q b c d r :=
 lG 126 [1,1,1,1,1,2,2,1] [.a,.q,.t,.q,dr 12 1 [.none,.none,.none,.none,(.pv g.pv),.none,.none,.none,(.pv i.pv),(.pv j.pv),(.pv k.pv),(.nat b),(.cells (.pure (((d.set b k):Rs).map ae.cells).flatten))],.h 0 (iI (((b+1):Nat):Int)),.aB [0,1,5,7,16,17]] (y8 (af h1) h2 h3 h4 h5 (cj (Eq.refl (((b:Nat):Int):Int)) h1) (ee bq (d:Rs) k h6) (aH h7)) hL
theorem cW(p q:Rs)(b:Nat)(c:ae)(d g:Rs)(h1:(max p.length q.length)≤b)(h2:(max p.length q.length)=d.length)(h3:Cp 12 [ah d] (ah g)):ag p q b c d (ah g) :=
 lD 120 [1,3,1] [.a,.q,.f,.eQ 7 ((d:Rs).map ae.cells),.h 1 (.pv (ah g))] (y3 (an h1) (cM bq (d:Rs) h2) h3)
end lA
namespace dJ
@[reducible] def fn:Func:=Tryz.f44
def bg:List dB:=focus [0,2,0,0,2,1,2,0,2,0,0,2,0,0] [.code (az fn)]
def inv1(q:List ae)(m:Nat)(p:List ae)(zS:Nat)(mj:List ae):St:=⟨[(1,(.pv (ah q))),(5,(.row 24 0 m 3)),(25,(.pv (ah p))),(26,(eI (p.length:Int))),(27,(eI (zS:Int)))],[(24,(.pure ((mj:List ae).map ae.cells).flatten))]⟩
@[reducible] def ag(q:List ae)(m:Nat)(p:List ae)(zS:Nat)(mj:List ae)(r:PV):Prop:=L bh fn bg (inv1 q m p zS mj) r
def jt:List dB:=focus [0,2,0,0,2,1,2,0,2,0,0,2,0,0,0,0,2,0,0,2,0,0,0,2,0,2,0,0] [.code (az fn)]
def inv2(q:List ae)(m wF:Nat)(p:List ae)(zS HF:Nat)(v:ae)(mj:List ae):St:=⟨[(1,(.pv (ah q))),(5,(.row 24 0 m 3)),(6,(eI (wF:Int))),(7,(.ptr 7 0)),(25,(.pv (ah p))),(26,(eI (p.length:Int))),(27,(eI (zS:Int))),(32,(.pv (ah q))),(33,(eI (q.length:Int))),(34,(eI (HF:Int)))],[(7,(.lit [(eB v.neg),(.pv (aa v.num)),(.pv (aa v.den))])),(24,(.pure ((mj:List ae).map ae.cells).flatten))]⟩
@[reducible] def aM(q:List ae)(m wF:Nat)(p:List ae)(zS HF:Nat)(v:ae)(mj:List ae)(r:PV):Prop:=L bh fn jt (inv2 q m wF p zS HF v mj) r
theorem e0(p q:Rs)(h1:p.length=0):Cp 44 [ah p,ah q] (ah []) :=
 eD func44 84 [1,1,1,1,1] [.q,.aI [.o,(iI (p.length:Int)),.o,.o,.skip,.skip,.skip,(.dec true)],.a,.q] (y5 (ak ae.cells p) (aA h1) (aA h1) (aA h1) (aA h1))
theorem e1(p q:Rs)(h1:p.length≠0)(h2:q.length=0):Cp 44 [ah p,ah q] (ah []) :=
 eD func44 84 [1,1,1,1,1,1,1] [.q,.aI [.o,(iI (p.length:Int)),.o,.o,.o,(iI (q.length:Int)),.o,(.dec false)],.t,.q] (y7 (ak ae.cells p) (av h1) (av h1) (ak ae.cells q) (av h1) (av h1) (aA h2))
theorem e2(p q:Rs)(m:Nat){r:PV}(h1:p.length≠0)(h2:q.length≠0)(h3:(p.length+q.length)<9223372036854775808)(h4:ar ((((p.length+q.length):Nat):Int)-1))(h5:((((p.length+q.length):Nat):Int)-1)=(m:Int))(h6:56*m≤140737488355328)(hL:ag q m p 0 (List.replicate m (⟨false,[],[]⟩:ae)) r):Cp 44 [ah p,ah q] r :=
 eG func44 102 [1,1,1,1,1,1,1,1,1,1,1,5,1] [.q,.aI [.o,(iI (p.length:Int)),.o,.o,.o,(iI (q.length:Int)),.o,(.dec false)],.f,.aI [.o,(iI (p.length:Int)),.o,(iI (q.length:Int)),(iI (((p.length+q.length):Nat):Int)),(iI ((((p.length+q.length):Nat):Int)-1)),(.app m ((List.replicate m (⟨false,[],[]⟩:ae):Rs).map ae.cells).flatten)],.h 1 (iI (p.length:Int)),.aB [1,5,25,26,27]] (Ew (ak ae.cells p) (av h1) (av h1) (ak ae.cells q) (av h1) (av h1) (av h2) (ak ae.cells p) (ak ae.cells q) (aH h3) (aG h4) (oK ae.cells (⟨false,[],[]⟩:ae) 56 m h5 h6 rfl) (ak ae.cells p)) hL
theorem l10(q:Rs)(m:Nat)(p:Rs)(b:Nat)(c:Rs)(v:ae){r:PV}(h1:b<p.length)(h2:p[b]? = some v)(hL:aM q m b p b 0 v c r):ag q m p b c r :=
 lG 144 [1,3,1] [.a,.q,.t,.h 1 (.row b (ae.cells v)),.h 1 (iI (q.length:Int)),.aB [1,5,6,7,25,26,27,32,33,34]] (y3 (af h1) (bd ae.cells (Eq.refl (((b:Nat):Int):Int)) h2) (ak ae.cells q)) hL
theorem cW(q:Rs)(m:Nat)(p:Rs)(b:Nat)(c d:Rs)(h1:p.length≤b)(h2:m=c.length)(h3:Cp 12 [ah c] (ah d)):ag q m p b c (ah d) :=
 lD 135 [1,3,1] [.a,.q,.f,.eQ 5 ((c:Rs).map ae.cells),.h 1 (.pv (ah d))] (y3 (an h1) (cM bq (c:Rs) h2) h3)
theorem tY(q:Rs)(m b:Nat)(p:Rs)(c d:Nat)(v:ae)(g:Rs)(v1 v2 i j:ae){r:PV}(h1:d<q.length)(h2:q[d]? = some v1)(h3:(b+d)<9223372036854775808)(h4:(b+d)<m)(h5:g[(b+d)]? = some v2)(h6:Cp 71 [v.pv,v1.pv] i.pv)(h7:Cp 30 [v2.pv,i.pv] j.pv)(h8:(b+d)<g.length)(h9:(d+1)<9223372036854775808)(hL:aM q m b p c (d+1) v (g.set (b+d) j) r):aM q m b p c d v g r :=
 lG 183 [1,3,1,1,2,2,1,1,2,2,1] [.a,.q,.t,.h 1 (.row d (ae.cells v1)),dr 15 1 [.none,.none,.none,(iI (((b+d):Nat):Int)),.none,.none,.none,(iI (((b+d):Nat):Int)),(.nat (b+d)),(.B2 [vB v2.neg,aa v2.num,aa v2.den]),.none,.none,(.pv i.pv),(.pv j.pv),(.nat (b+d)),(.cells (.pure (((g.set (b+d) j):Rs).map ae.cells).flatten))],.h 0 (iI (((d+1):Nat):Int)),.aB [1,5,6,7,25,26,27,32,33,34],.drop [9]] (xZ (af h1) (bd ae.cells (Eq.refl (((d:Nat):Int):Int)) h2) (aH h3) (aH h3) (cj (Eq.refl ((((b+d):Nat):Int):Int)) h4) (pI bq h5) h6 h7 (cj (Eq.refl ((((b+d):Nat):Int):Int)) h4) (ee bq (g:Rs) j h8) (aH h9)) hL
theorem sf(q:Rs)(m b:Nat)(p:Rs)(c d:Nat)(v:ae)(g:Rs){r:PV}(h1:q.length≤d)(h2:(c+1)<9223372036854775808)(hL:ag q m p (c+1) g r):aM q m b p c d v g r :=
 lG 177 [1,1] [.a,.q,.f,.h 0 (iI (((c+1):Nat):Int)),.aB [1,5,25,26,27],.drop [7]] (y2 (an h1) (aH h2)) hL
end dJ
namespace iG
theorem e0(p:Rs)(i:Int)(k:Nat)(v:ae)(h1:i<(p.length:Int))(h2:i=(k:Int))(h3:p[k]? = some v):Cp 75 [ah p,vI i] v.pv :=
 eD func75 84 [1,1,3] [.q,.h 2 (iI (p.length:Int)),.t,.h 2 (.row k (ae.cells v))] (y3 (ak ae.cells p) (cA h1) (bd ae.cells h2 h3))
theorem e1(p:Rs)(i:Int)(h1:(p.length:Int)≤i):Cp 75 [ah p,vI i] ((⟨false,[],[]⟩:ae).pv) :=
 eD func75 87 [1,1] [.q,.h 2 (iI (p.length:Int)),.f,.q] (y2 (ak ae.cells p) (cY h1))
end iG
end Go.Proofs.YtnjhplhbmapclaaGreatDoor.Sym.Path
end
